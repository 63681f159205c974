/- gram.Decode. -/
import Derived.Test.YtemcpldipjbleaaUnw
import Derived.Test.YtemcpldipjbleaaGram
namespace Go.Proofs.Ytemcpldipjbleaa
open Go.RowKit
attribute [local go_sem ↓] Go.wp_at_zero Go.wp_at_succ

theorem gramEnc_length {g : Mp.Gram} {l : Mp.Bytes} (h : Mp.gramEnc g = some l) : l.length ≤ 2009 := by
  unfold Mp.gramEnc at h
  split at h
  · split at h
    · cases h
    · unfold Mp.wrap at h
      split at h
      · cases h
      · rename_i hn
        cases h
        rw [Mp.summed_length, Mp.headed_length]
        omega
  · cases h

/-- a datagram, or an error -/
def RetG (w : World) (r : Option Mp.Gram) (e : Ending) (w' : World) : Prop :=
  Below w.heap.size w w' ∧ match r with
  | none => ∃ k, k ≠ 0 ∧ e = .returned (.tuple #[.agg #[.int .i64 0, .int .i64 0, .int .i64 0, .int .i64 0, .int .i64 0, .slice none 0 0], .int .i64 k])
  | some g => ∃ A c, e = .returned (.tuple #[.agg (gv g A c), .int .i64 0]) ∧ g.body.length ≤ c ∧ Seg w' 5 A (bv g.body) ∧ ∀ a, A = some a → 0 < g.body.length → w.heap.size ≤ a.block

theorem IsR.upd {w w' : World} {B g : Nat} {s : Mp.Bytes × Bool} {F : List Nat} (h : IsR w B g s) (hu : Upd F w w') (hk : Keep 5 w w') (hg : g ∉ F) : IsR w' B g s := by
  obtain ⟨h0, A, c, h1, h2, h3, h4⟩ := h
  exact ⟨h0, A, c, hu.blk h1 hg, h2, h3, h4.keep hk⟩
theorem IsR.set {w : World} {B g L i : Nat} {s : Mp.Bytes × Bool} {T : TypeId} {cs : Array Value} (h : IsR w B g s) (hL : Blk w L T cs) (hT : T ≠ 5) (hg : g ≠ L) (u : Value) : IsR (w.setCell ⟨L, i, none⟩ u) B g s :=
  h.upd ((Upd.refl [L] w).setCell (.inl (by simp)) u) ((Keep.refl _ w).setCell hL hT i u) (by simpa using hg)

theorem Blk.setTo {w : World} {g : Nat} {t : TypeId} {cs : Array Value} (h : Blk w g t cs) (i : Nat) (u : Value) (cs' : Array Value) (hc : cs.setIfInBounds i u = cs') : Blk (w.setCell ⟨g, i, none⟩ u) g t cs' := by subst hc; exact h.set_ i u
theorem set6 {w : World} {L : Nat} {T : TypeId} {a b c d e f : Value} (h : Blk w L T #[a, b, c, d, e, f]) (a' b' c' d' e' f' : Value) (W : World)
    (hW : W = (((((w.setCell ⟨L, 0, none⟩ a').setCell ⟨L, 1, none⟩ b').setCell ⟨L, 2, none⟩ c').setCell ⟨L, 3, none⟩ d').setCell ⟨L, 4, none⟩ e').setCell ⟨L, 5, none⟩ f') :
    Blk W L T #[a', b', c', d', e', f'] ∧ Upd [L] w W ∧ ∀ T2, T ≠ T2 → Keep T2 w W := by
  subst hW
  have h0 := h.setTo 0 a' #[a', b, c, d, e, f] (by simp)
  have h1 := h0.setTo 1 b' #[a', b', c, d, e, f] (by simp)
  have h2 := h1.setTo 2 c' #[a', b', c', d, e, f] (by simp)
  have h3 := h2.setTo 3 d' #[a', b', c', d', e, f] (by simp)
  have h4 := h3.setTo 4 e' #[a', b', c', d', e', f] (by simp)
  have h5 := h4.setTo 5 f' #[a', b', c', d', e', f'] (by simp)
  refine ⟨h5, ?_, fun T2 hT => ?_⟩
  · exact ((((((Upd.refl [L] w).setCell (.inl (by simp)) _).setCell (.inl (by simp)) _).setCell (.inl (by simp)) _).setCell (.inl (by simp)) _).setCell (.inl (by simp)) _).setCell (.inl (by simp)) _
  · exact ((((((Keep.refl T2 w).setCell h hT 0 _).setCell h0 hT 1 _).setCell h1 hT 2 _).setCell h2 hT 3 _).setCell h3 hT 4 _).setCell h4 hT 5 _

set_option maxRecDepth 100000 in
set_option maxHeartbeats 400000 in
theorem gramDecNone (A : Option Addr) (b : Mp.Bytes) (c : Nat) (w : World) (hs : Seg w 5 A (bv b)) (hcap : b.length ≤ c) (hb : b.length ≤ 35184372088832) (hn : Mp.unwrap b = none) :
    Calls Try.prog 37 #[.slice A b.length c] w (RetG w (Mp.gramDec b)) := by
  have HU := Lib.hid (frameUnwrap A b c (w.alloc (.cells #[.int .i64 0, .int .i64 0, .int .i64 0, .int .i64 0, .int .i64 0, .slice none 0 0] 38)) (hs.alloc _) hcap hb)
  rw [hn] at HU
  have HR := Lib.hid (show Mp.gramDec b = none by unfold Mp.gramDec; rw [hn])
  rw [HR.out]
  clear hn
  have l0 := Blk.newAt w 38 #[.int .i64 0, .int .i64 0, .int .i64 0, .int .i64 0, .int .i64 0, .slice none 0 0] _ rfl
  go_enter Try.func37, Try.ntmps37
  go_wp2_with (go_at_call 53; (with_reducible refine HU.out.mono ?_); rintro e w1 ⟨b1, k, hk, rfl⟩; have l1 := l0.below b1 l0.lt; obtain ⟨k0, k1, k2, k3, k4, k5⟩ := cells6 l1; have fz : ∀ i, w1.frozen? ⟨w.heap.size, i, none⟩ = false := fun i => l1.frozen i; have hk2 : (k != 0) = true := by simpa using hk)
  obtain ⟨q1, q2, q3⟩ := set6 l1 (.int .i64 0) (.int .i64 0) (.int .i64 0) (.int .i64 0) (.int .i64 0) (.slice none 0 0) _ rfl
  obtain ⟨k0, k1, k2, k3, k4, k5⟩ := cells6 q1
  refine bodyPost_ret (v := .tuple #[.agg #[.int .i64 0, .int .i64 0, .int .i64 0, .int .i64 0, .int .i64 0, .slice none 0 0], .int .i64 k]) (by simp [results, Try.f37, go_sem, k0, k1, k2, k3, k4, k5]) rfl ?_
  refine ⟨?_, k, hk, rfl⟩
  exact upd_below (((Upd.refl [w.heap.size] w).alloc _).below b1 |>.trans q2 (by simp)) (by simp) (Nat.le_refl _)

theorem stores2 {w : World} {L i j : Nat} {T : TypeId} {cs cs1 cs2 : Array Value} (h : Blk w L T cs) (u v : Value) (W : World) (hW : W = (w.setCell ⟨L, i, none⟩ u).setCell ⟨L, j, none⟩ v) (h1 : cs.setIfInBounds i u = cs1) (h2 : cs1.setIfInBounds j v = cs2) :
    Blk W L T cs2 ∧ Upd [L] w W ∧ ∀ T2, T ≠ T2 → Keep T2 w W := by
  subst hW
  have b1 := h.setTo i u cs1 h1
  exact ⟨b1.setTo j v cs2 h2, ((Upd.refl [L] w).setCell (.inl (by simp)) _).setCell (.inl (by simp)) _, fun T2 hT => ((Keep.refl T2 w).setCell h hT i _).setCell b1 hT j _⟩
theorem store1 {w : World} {L i : Nat} {T : TypeId} {cs cs1 : Array Value} (h : Blk w L T cs) (u : Value) (W : World) (hW : W = (w.setCell ⟨L, i, none⟩ u)) (h1 : cs.setIfInBounds i u = cs1) :
    Blk W L T cs1 ∧ Upd [L] w W ∧ ∀ T2, T ≠ T2 → Keep T2 w W := by
  subst hW
  exact ⟨h.setTo i u cs1 h1, ((Upd.refl [L] w).setCell (.inl (by simp)) _), fun T2 hT => ((Keep.refl T2 w).setCell h hT i _)⟩

set_option maxRecDepth 100000 in
set_option maxHeartbeats 400000 in
theorem gramDec1 (A : Option Addr) (b : Mp.Bytes) (c : Nat) (w : World) (hs : Seg w 5 A (bv b)) (hcap : b.length ≤ c) (hb : b.length ≤ 35184372088832) (body : Mp.Bytes) (hn : Mp.unwrap b = some (1, body)) :
    Calls Try.prog 37 #[.slice A b.length c] w (RetG w (Mp.gramDec b)) := by
  have HU := Lib.hid (frameUnwrap A b c (w.alloc (.cells #[.int .i64 0, .int .i64 0, .int .i64 0, .int .i64 0, .int .i64 0, .slice none 0 0] 38)) (hs.alloc _) hcap hb)
  rw [hn] at HU
  have hbl := Mp.unwrap_len hn
  obtain ⟨cn, s1, e1⟩ : ∃ x y, Mp.rnum 4 (body, false) = (x, y) := ⟨_, _, rfl⟩
  obtain ⟨sq, s2, e2⟩ : ∃ x y, Mp.rnum 4 s1 = (x, y) := ⟨_, _, rfl⟩
  obtain ⟨ak, s3, e3⟩ : ∃ x y, Mp.rnum 4 s2 = (x, y) := ⟨_, _, rfl⟩
  obtain ⟨bd, s4, e4⟩ : ∃ x y, Mp.rraw (Mp.rleft s3) s3 = (x, y) := ⟨_, _, rfl⟩
  have n1 := Mp.rnum_len 4 (body, false)
  have n2 := Mp.rnum_len 4 s1
  have n3 := Mp.rnum_len 4 s2
  have n4 := (Mp.rraw_len (Mp.rleft s3) s3).2
  rw [e1] at n1
  rw [e2] at n2
  rw [e3] at n3
  rw [e4] at n4
  simp only at n1 n2 n3 n4
  have hg : Mp.gramOf 1 body = ⟨cn, 1, sq, ak, 0, bd⟩ := by
    unfold Mp.gramOf
    simp only [e1, e2, e3, e4]
    rfl
  have HR := Lib.hid (show Mp.gramDec b = if Mp.gramEnc ⟨cn, 1, sq, ak, 0, bd⟩ = some b then some ⟨cn, 1, sq, ak, 0, bd⟩ else none by unfold Mp.gramDec; rw [hn]; simp only [hg])
  have E1 := Lib.hid e1
  have E2 := Lib.hid e2
  have E3 := Lib.hid e3
  have E4 := Lib.hid e4
  clear hn e1 e2 e3 e4 hg
  have l0 := Blk.newAt w 38 #[.int .i64 0, .int .i64 0, .int .i64 0, .int .i64 0, .int .i64 0, .slice none 0 0] _ rfl
  go_enter Try.func37, Try.ntmps37
  go_wp2_with fail
  refine HU.out.mono ?_
  rintro e w1 ⟨b1, A1, c1, rfl, o1, f1⟩
  have l1 := l0.below b1 l0.lt
  go_wp2_with fail
  refine (rRead A1 body c1 o1.seg (by omega)).mono ?_
  rintro e w2 ⟨g, rfl, r2, b2⟩
  have l2 := l1.below b2 l1.lt
  go_wp2_with fail
  refine (rNum r2 4 (by omega) (by omega) (by simp; omega)).mono ?_
  rw [E1.out]
  rintro e w3 ⟨rfl, r3, b3, u3⟩
  have l3 := l2.below b3 l1.lt
  go_wp2_with fail
  have m3 := Blk.newAt w3 38 #[.int .i64 cn, .int .i64 1, .int .i64 0, .int .i64 0, .int .i64 0, .slice none 0 0] _ rfl
  have r3' := r3.alloc (.cells #[.int .i64 cn, .int .i64 1, .int .i64 0, .int .i64 0, .int .i64 0, .slice none 0 0] 38)
  have l3' := l3.alloc (.cells #[.int .i64 cn, .int .i64 1, .int .i64 0, .int .i64 0, .int .i64 0, .slice none 0 0] 38)
  have hgl : g < w3.heap.size := by obtain ⟨_, _, _, hg, _⟩ := r3; exact hg.lt
  have hg1 : w1.heap.size ≤ g := r3.1
  have hl1 := l1.lt
  have h31 := b3.size
  have h21 := b2.size
  have B3 : Below w.heap.size w (w3.alloc (.cells #[.int .i64 cn, .int .i64 1, .int .i64 0, .int .i64 0, .int .i64 0, .slice none 0 0] 38)) :=
    (((((Below.refl _ w).alloc (Nat.le_refl _) _).trans (b1.mono (by simp))).trans (b2.mono (by omega))).trans (b3.mono (by omega))).alloc (by omega) _
  refine (rNum r3' 4 (by omega) (by omega) (by omega)).mono ?_
  rw [E2.out]
  rintro e w4 ⟨rfl, r4, b4, u4⟩
  simp only at r4
  have m4 := u4.blk m3 (by simp; omega)
  have l4 := u4.blk l3' (by simp; omega)
  have B4 := B3.trans (b4.mono (by omega))
  go_wp2_with fail
  refine (rNum r4 4 (by omega) (by omega) (by omega)).mono ?_
  rw [E3.out]
  rintro e w5 ⟨rfl, r5, b5, u5⟩
  simp only at r5
  have m5 := u5.blk m4 (by simp; omega)
  have l5 := u5.blk l4 (by simp; omega)
  have B5 := B4.trans (b5.mono (by omega))
  obtain ⟨k0, k1, k2, k3, k4, k5⟩ := cells6 m5
  have fz : ∀ i, w5.frozen? ⟨w3.heap.size, i, none⟩ = false := fun i => m5.frozen i
  clear r2 r3 r3' r4 l0 l1 l2 l3 l3' l4 m3 m4 u3 u4 u5 b1 b2 b3 b4 b5
  go_wp2_with fail
  obtain ⟨m6, u6, kk6⟩ := stores2 (i := 2) (j := 3) m5 (.int .i64 sq) (.int .i64 ak) _ rfl rfl rfl
  simp at m6
  have r6 := r5.upd u6 (kk6 _ (by decide)) (by simp; omega)
  have l6 := u6.blk l5 (by simp; omega)
  have B6 := B5.trans (upd_below u6 (B := w.heap.size) (by simp; omega) B5.size)
  have hL6 := m6.lt
  generalize ((w5.setCell ⟨w3.heap.size, 2, none⟩ (.int .i64 sq)).setCell ⟨w3.heap.size, 3, none⟩ (.int .i64 ak)) = w6 at m6 r6 l6 B6 hL6 ⊢
  clear k0 k1 k2 k3 k4 k5 fz m5 l5 r5 u6 kk6 B3 B4 B5
  refine (rLeft r6).mono ?_
  rintro e w6' ⟨rfl, rfl⟩
  go_wp2_with fail
  refine (rRaw r6 _ (by omega)).mono ?_
  rw [E4.out]
  rintro e w7 ⟨A7, c7, rfl, o7, f7, r7, b7, u7⟩
  simp only at o7 r7
  have m7 := u7.blk m6 (by simp; omega)
  have l7 := u7.blk l6 (by simp; omega)
  have B7 := B6.trans (b7.mono (by omega))
  have z7 := b7.size
  obtain ⟨k0, k1, k2, k3, k4, k5⟩ := cells6 m7
  have fz : ∀ i, w7.frozen? ⟨w3.heap.size, i, none⟩ = false := fun i => m7.frozen i
  go_wp2_with fail
  obtain ⟨m8, u8, kk8⟩ := store1 (i := 5) m7 (.slice A7 bd.length c7) _ rfl rfl
  simp at m8
  have l8 := u8.blk l7 (by simp; omega)
  have B8 := B7.trans (upd_below u8 (B := w.heap.size) (by simp; omega) B7.size)
  have o8 := o7.keep (kk8 _ (by decide))
  have z8 := u8.size
  have f8 : ∀ a, A7 = some a → 0 < bd.length → w.heap.size ≤ a.block := by
    intro a ha h0
    have := f7 a.block (by unfold fp; rw [if_neg (by have := o7.le; omega), ha]; simp)
    omega
  generalize (w7.setCell ⟨w3.heap.size, 5, none⟩ (.slice A7 bd.length c7)) = w8 at m8 l8 B8 o8 z8 ⊢
  clear k0 k1 k2 k3 k4 k5 fz m6 m7 l6 l7 r6 r7 b7 u7 B6 B7 o7 f7 u8 kk8
  generalize hL : w3.heap.size = L at m8 hgl h31 hL6 ⊢
  have hbs := hs.below B8
  obtain ⟨G, hG⟩ : ∃ G : Mp.Gram, G = ⟨cn, 1, sq, ak, 0, bd⟩ := ⟨_, rfl⟩
  have hgv : gv G A7 c7 = #[.int .i64 cn, .int .i64 1, .int .i64 sq, .int .i64 ak, .int .i64 0, .slice A7 bd.length c7] := by rw [hG]; rfl
  have HE := Lib.hid (gramEncode G A7 c7 w8 (by rw [hG]; exact o8.seg) (by rw [hG]; simp only; omega))
  rw [hgv] at HE
  rw [← hG] at HR
  have hw0 : w.heap.size ≠ L := by omega
  have hbd : ∀ w', RetG w (some G) (.returned (.tuple #[.agg #[.int .i64 cn, .int .i64 1, .int .i64 sq, .int .i64 ak, .int .i64 0, .slice A7 bd.length c7], .int .i64 0])) w' ↔ Below w.heap.size w w' ∧ Seg w' 5 A7 (bv bd) := by
    intro w'
    subst hG
    constructor
    · rintro ⟨h1, A', c', h2, _, h3, _⟩
      injection h2 with h2
      simp [gv] at h2
      obtain ⟨rfl, rfl⟩ := h2
      exact ⟨h1, h3⟩
    · rintro ⟨h1, h2⟩
      exact ⟨h1, A7, c7, rfl, o8.le, h2, f8⟩
  have HBD := Lib.hid hbd
  have hwl := hs.below B8
  have hLt := m8.lt
  have hz8 := B8.size
  have hl0 := l8.lt
  have hEl := @gramEnc_length G
  have o8s := o8.seg
  clear hbd hG hgv f8 o1 o8
  obtain ⟨k0, k1, k2, k3, k4, k5⟩ := cells6 m8
  cases hen : Mp.gramEnc G with
  | none =>
    rw [hen] at HR HE
    have HR2 : Hid (Mp.gramDec b = none) := by refine Lib.hid ?_; rw [HR.out]; rfl
    clear HR hen
    refine HE.out.mono ?_
    rintro e w9 ⟨b9, rfl⟩
    have l9 := l8.below b9 hl0
    obtain ⟨j0, j1, j2, j3, j4, j5⟩ := cells6 l9
    have fz : ∀ i, w9.frozen? ⟨w.heap.size, i, none⟩ = false := fun i => l9.frozen i
    go_wp2
    obtain ⟨q1, q2, q3⟩ := set6 l9 (.int .i64 0) (.int .i64 0) (.int .i64 0) (.int .i64 0) (.int .i64 0) (.slice none 0 0) _ rfl
    obtain ⟨i0, i1, i2, i3, i4, i5⟩ := cells6 q1
    refine bodyPost_ret (v := .tuple #[.agg #[.int .i64 0, .int .i64 0, .int .i64 0, .int .i64 0, .int .i64 0, .slice none 0 0], .int .i64 2]) (by simp [results, Try.f37, go_sem, i0, i1, i2, i3, i4, i5]) rfl ?_
    rw [HR2.out]
    exact ⟨(B8.trans (b9.mono hz8)).trans (upd_below q2 (by simp) (by have := b9.size; omega)), 2, by decide, rfl⟩
  | some l =>
    rw [hen] at HR HE
    have hll := hEl hen
    clear hen
    refine HE.out.mono ?_
    rintro e w9 ⟨b9, A9, c9, rfl, o9, f9⟩
    have l9 := l8.below b9 hl0
    have m9 := m8.below b9 hLt
    obtain ⟨j0, j1, j2, j3, j4, j5⟩ := cells6 l9
    obtain ⟨p0, p1, p2, p3, p4, p5⟩ := cells6 m9
    have fz : ∀ i, w9.frozen? ⟨w.heap.size, i, none⟩ = false := fun i => l9.frozen i
    have HQ := Lib.hid (bytesEq l b A9 A c9 c w9 o9.seg (hwl.below b9))
    by_cases heq : l = b
    · subst heq
      have HR2 : Hid (Mp.gramDec l = some G) := by refine Lib.hid ?_; rw [HR.out, if_pos rfl]
      clear HR
      have hq : (l == l) = true := by simp
      rw [hq] at HQ
      go_wp2_with (go_at_call 59; (with_reducible refine HQ.out.mono ?_); rintro e w10 ⟨rfl, rfl⟩)
      obtain ⟨q1, q2, q3⟩ := set6 l9 (.int .i64 cn) (.int .i64 1) (.int .i64 sq) (.int .i64 ak) (.int .i64 0) (.slice A7 bd.length c7) _ rfl
      obtain ⟨i0, i1, i2, i3, i4, i5⟩ := cells6 q1
      refine bodyPost_ret (v := .tuple #[.agg #[.int .i64 cn, .int .i64 1, .int .i64 sq, .int .i64 ak, .int .i64 0, .slice A7 bd.length c7], .int .i64 0]) (by simp [results, Try.f37, go_sem, i0, i1, i2, i3, i4, i5]) rfl ?_
      rw [HR2.out, HBD.out]
      exact ⟨(B8.trans (b9.mono hz8)).trans (upd_below q2 (by simp) (by have := b9.size; omega)), (o8s.below b9).keep (q3 _ (by decide))⟩
    · have HR2 : Hid (Mp.gramDec b = none) := by refine Lib.hid ?_; rw [HR.out, if_neg (by simpa using heq)]
      clear HR
      have hq : (l == b) = false := by simpa using heq
      rw [hq] at HQ
      clear heq
      go_wp2_with (go_at_call 59; (with_reducible refine HQ.out.mono ?_); rintro e w10 ⟨rfl, rfl⟩)
      obtain ⟨q1, q2, q3⟩ := set6 l9 (.int .i64 0) (.int .i64 0) (.int .i64 0) (.int .i64 0) (.int .i64 0) (.slice none 0 0) _ rfl
      obtain ⟨i0, i1, i2, i3, i4, i5⟩ := cells6 q1
      refine bodyPost_ret (v := .tuple #[.agg #[.int .i64 0, .int .i64 0, .int .i64 0, .int .i64 0, .int .i64 0, .slice none 0 0], .int .i64 2]) (by simp [results, Try.f37, go_sem, i0, i1, i2, i3, i4, i5]) rfl ?_
      rw [HR2.out]
      exact ⟨(B8.trans (b9.mono hz8)).trans (upd_below q2 (by simp) (by have := b9.size; omega)), 2, by decide, rfl⟩
-- (printed by gengramd.py from here on)
set_option maxRecDepth 100000 in
set_option maxHeartbeats 400000 in
theorem gramDec2 (A : Option Addr) (b : Mp.Bytes) (c : Nat) (w : World) (hs : Seg w 5 A (bv b)) (hcap : b.length ≤ c) (hb : b.length ≤ 35184372088832) (body : Mp.Bytes) (hn : Mp.unwrap b = some (2, body)) :
    Calls Try.prog 37 #[.slice A b.length c] w (RetG w (Mp.gramDec b)) := by
  have HU := Lib.hid (frameUnwrap A b c (w.alloc (.cells #[.int .i64 0, .int .i64 0, .int .i64 0, .int .i64 0, .int .i64 0, .slice none 0 0] 38)) (hs.alloc _) hcap hb)
  rw [hn] at HU
  have hbl := Mp.unwrap_len hn
  obtain ⟨cn, s1, e1⟩ : ∃ x y, Mp.rnum 4 (body, false) = (x, y) := ⟨_, _, rfl⟩
  obtain ⟨ak, s2, e2⟩ : ∃ x y, Mp.rnum 4 s1 = (x, y) := ⟨_, _, rfl⟩
  have n1 := Mp.rnum_len 4 (body, false)
  have n2 := Mp.rnum_len 4 s1
  rw [e1] at n1
  rw [e2] at n2
  simp only at n1 n2
  have hg : Mp.gramOf 2 body = (⟨cn, 2, 0, ak, 0, []⟩ : Mp.Gram) := by
    unfold Mp.gramOf
    simp only [e1, e2]
    rfl
  have HR := Lib.hid (show Mp.gramDec b = if Mp.gramEnc (⟨cn, 2, 0, ak, 0, []⟩ : Mp.Gram) = some b then some (⟨cn, 2, 0, ak, 0, []⟩ : Mp.Gram) else none by unfold Mp.gramDec; rw [hn]; simp only [hg])
  have E1 := Lib.hid e1
  have E2 := Lib.hid e2
  clear hn e1 e2 hg
  have l0 := Blk.newAt w 38 #[.int .i64 0, .int .i64 0, .int .i64 0, .int .i64 0, .int .i64 0, .slice none 0 0] _ rfl
  go_enter Try.func37, Try.ntmps37
  go_wp2_with fail
  refine HU.out.mono ?_
  rintro e w1 ⟨b1, A1, c1, rfl, o1, f1⟩
  have l1 := l0.below b1 l0.lt
  go_wp2_with fail
  refine (rRead A1 body c1 o1.seg (by omega)).mono ?_
  rintro e w2 ⟨g, rfl, r2, b2⟩
  have l2 := l1.below b2 l1.lt
  go_wp2_with fail
  refine (rNum r2 4 (by omega) (by omega) (by simp; omega)).mono ?_
  rw [E1.out]
  rintro e w3 ⟨rfl, r3, b3, u3⟩
  have l3 := l2.below b3 l1.lt
  go_wp2_with fail
  have m3 := Blk.newAt w3 38 #[.int .i64 cn, .int .i64 2, .int .i64 0, .int .i64 0, .int .i64 0, .slice none 0 0] _ rfl
  have r3' := r3.alloc (.cells #[.int .i64 cn, .int .i64 2, .int .i64 0, .int .i64 0, .int .i64 0, .slice none 0 0] 38)
  have l3' := l3.alloc (.cells #[.int .i64 cn, .int .i64 2, .int .i64 0, .int .i64 0, .int .i64 0, .slice none 0 0] 38)
  have hgl : g < w3.heap.size := by obtain ⟨_, _, _, hg, _⟩ := r3; exact hg.lt
  have hg1 : w1.heap.size ≤ g := r3.1
  have hl1 := l1.lt
  have h31 := b3.size
  have h21 := b2.size
  have B3 : Below w.heap.size w (w3.alloc (.cells #[.int .i64 cn, .int .i64 2, .int .i64 0, .int .i64 0, .int .i64 0, .slice none 0 0] 38)) :=
    (((((Below.refl _ w).alloc (Nat.le_refl _) _).trans (b1.mono (by simp))).trans (b2.mono (by omega))).trans (b3.mono (by omega))).alloc (by omega) _
  refine (rNum r3' 4 (by omega) (by omega) (by omega)).mono ?_
  rw [E2.out]
  rintro e w4 ⟨rfl, r4, b4, u4⟩
  simp only at r4
  have m4 := u4.blk m3 (by simp; omega)
  have l4 := u4.blk l3' (by simp; omega)
  have B4 := B3.trans (b4.mono (by omega))
  obtain ⟨k0, k1, k2, k3, k4, k5⟩ := cells6 m4
  have fz : ∀ i, w4.frozen? ⟨w3.heap.size, i, none⟩ = false := fun i => m4.frozen i
  clear r2 r3 r3' l0 l1 l2 l3 l3' m3 u3 u4 b1 b2 b3 b4
  go_wp2_with fail
  obtain ⟨m8, u8, kk8⟩ := store1 (i := 3) m4 (.int .i64 ak) _ rfl rfl
  simp at m8
  have l8 := u8.blk l4 (by simp; omega)
  have B8 := B4.trans (upd_below u8 (B := w.heap.size) (by simp; omega) B4.size)
  generalize (w4.setCell ⟨w3.heap.size, 3, none⟩ (.int .i64 ak)) = w8 at m8 l8 B8 ⊢
  clear k0 k1 k2 k3 k4 k5 fz m4 l4 r4 u8 kk8 B3 B4
  have hL6 : w3.heap.size < w8.heap.size := m8.lt
  generalize hL : w3.heap.size = L at m8 hgl h31 hL6 ⊢
  have hbs := hs.below B8
  obtain ⟨G, hG⟩ : ∃ G : Mp.Gram, G = (⟨cn, 2, 0, ak, 0, []⟩ : Mp.Gram) := ⟨_, rfl⟩
  have hgv : gv G none 0 = #[.int .i64 cn, .int .i64 2, .int .i64 0, .int .i64 ak, .int .i64 0, .slice none 0 0] := by rw [hG]; rfl
  have HE := Lib.hid (gramEncode G none 0 w8 (by rw [hG]; exact Seg.nil _ _ _) (by rw [hG]; simp))
  rw [hgv] at HE
  rw [← hG] at HR
  have hw0 : w.heap.size ≠ L := by omega
  have hbd : ∀ w', RetG w (some G) (.returned (.tuple #[.agg #[.int .i64 cn, .int .i64 2, .int .i64 0, .int .i64 ak, .int .i64 0, .slice none 0 0], .int .i64 0])) w' ↔ Below w.heap.size w w' := by
    intro w'
    subst hG
    constructor
    · rintro ⟨h1, _⟩
      exact h1
    · intro h1
      exact ⟨h1, none, 0, rfl, by simp, Seg.nil _ _ _, by simp⟩
  have HBD := Lib.hid hbd
  have hwl := hs.below B8
  have hLt := m8.lt
  have hz8 := B8.size
  have hl0 := l8.lt
  have hEl := @gramEnc_length G
  clear hbd hG hgv o1
  obtain ⟨k0, k1, k2, k3, k4, k5⟩ := cells6 m8
  cases hen : Mp.gramEnc G with
  | none =>
    rw [hen] at HR HE
    have HR2 : Hid (Mp.gramDec b = none) := by refine Lib.hid ?_; rw [HR.out]; rfl
    clear HR hen
    refine HE.out.mono ?_
    rintro e w9 ⟨b9, rfl⟩
    have l9 := l8.below b9 hl0
    obtain ⟨j0, j1, j2, j3, j4, j5⟩ := cells6 l9
    have fz : ∀ i, w9.frozen? ⟨w.heap.size, i, none⟩ = false := fun i => l9.frozen i
    go_wp2
    obtain ⟨q1, q2, q3⟩ := set6 l9 (.int .i64 0) (.int .i64 0) (.int .i64 0) (.int .i64 0) (.int .i64 0) (.slice none 0 0) _ rfl
    obtain ⟨i0, i1, i2, i3, i4, i5⟩ := cells6 q1
    refine bodyPost_ret (v := .tuple #[.agg #[.int .i64 0, .int .i64 0, .int .i64 0, .int .i64 0, .int .i64 0, .slice none 0 0], .int .i64 2]) (by simp [results, Try.f37, go_sem, i0, i1, i2, i3, i4, i5]) rfl ?_
    rw [HR2.out]
    exact ⟨(B8.trans (b9.mono hz8)).trans (upd_below q2 (by simp) (by have := b9.size; omega)), 2, by decide, rfl⟩
  | some l =>
    rw [hen] at HR HE
    have hll := hEl hen
    clear hen
    refine HE.out.mono ?_
    rintro e w9 ⟨b9, A9, c9, rfl, o9, f9⟩
    have l9 := l8.below b9 hl0
    have m9 := m8.below b9 hLt
    obtain ⟨j0, j1, j2, j3, j4, j5⟩ := cells6 l9
    obtain ⟨p0, p1, p2, p3, p4, p5⟩ := cells6 m9
    have fz : ∀ i, w9.frozen? ⟨w.heap.size, i, none⟩ = false := fun i => l9.frozen i
    have HQ := Lib.hid (bytesEq l b A9 A c9 c w9 o9.seg (hwl.below b9))
    by_cases heq : l = b
    · subst heq
      have HR2 : Hid (Mp.gramDec l = some G) := by refine Lib.hid ?_; rw [HR.out, if_pos rfl]
      clear HR
      have hq : (l == l) = true := by simp
      rw [hq] at HQ
      go_wp2_with (go_at_call 59; (with_reducible refine HQ.out.mono ?_); rintro e w10 ⟨rfl, rfl⟩)
      obtain ⟨q1, q2, q3⟩ := set6 l9 (.int .i64 cn) (.int .i64 2) (.int .i64 0) (.int .i64 ak) (.int .i64 0) (.slice none 0 0) _ rfl
      obtain ⟨i0, i1, i2, i3, i4, i5⟩ := cells6 q1
      refine bodyPost_ret (v := .tuple #[.agg #[.int .i64 cn, .int .i64 2, .int .i64 0, .int .i64 ak, .int .i64 0, .slice none 0 0], .int .i64 0]) (by simp [results, Try.f37, go_sem, i0, i1, i2, i3, i4, i5]) rfl ?_
      rw [HR2.out, HBD.out]
      exact (B8.trans (b9.mono hz8)).trans (upd_below q2 (by simp) (by have := b9.size; omega))
    · have HR2 : Hid (Mp.gramDec b = none) := by refine Lib.hid ?_; rw [HR.out, if_neg (by simpa using heq)]
      clear HR
      have hq : (l == b) = false := by simpa using heq
      rw [hq] at HQ
      clear heq
      go_wp2_with (go_at_call 59; (with_reducible refine HQ.out.mono ?_); rintro e w10 ⟨rfl, rfl⟩)
      obtain ⟨q1, q2, q3⟩ := set6 l9 (.int .i64 0) (.int .i64 0) (.int .i64 0) (.int .i64 0) (.int .i64 0) (.slice none 0 0) _ rfl
      obtain ⟨i0, i1, i2, i3, i4, i5⟩ := cells6 q1
      refine bodyPost_ret (v := .tuple #[.agg #[.int .i64 0, .int .i64 0, .int .i64 0, .int .i64 0, .int .i64 0, .slice none 0 0], .int .i64 2]) (by simp [results, Try.f37, go_sem, i0, i1, i2, i3, i4, i5]) rfl ?_
      rw [HR2.out]
      exact ⟨(B8.trans (b9.mono hz8)).trans (upd_below q2 (by simp) (by have := b9.size; omega)), 2, by decide, rfl⟩

set_option maxRecDepth 100000 in
set_option maxHeartbeats 400000 in
theorem gramDec3 (A : Option Addr) (b : Mp.Bytes) (c : Nat) (w : World) (hs : Seg w 5 A (bv b)) (hcap : b.length ≤ c) (hb : b.length ≤ 35184372088832) (body : Mp.Bytes) (hn : Mp.unwrap b = some (3, body)) :
    Calls Try.prog 37 #[.slice A b.length c] w (RetG w (Mp.gramDec b)) := by
  have HU := Lib.hid (frameUnwrap A b c (w.alloc (.cells #[.int .i64 0, .int .i64 0, .int .i64 0, .int .i64 0, .int .i64 0, .slice none 0 0] 38)) (hs.alloc _) hcap hb)
  rw [hn] at HU
  have hbl := Mp.unwrap_len hn
  obtain ⟨cn, s1, e1⟩ : ∃ x y, Mp.rnum 4 (body, false) = (x, y) := ⟨_, _, rfl⟩
  obtain ⟨ak, s2, e2⟩ : ∃ x y, Mp.rnum 1 s1 = (x, y) := ⟨_, _, rfl⟩
  have n1 := Mp.rnum_len 4 (body, false)
  have n2 := Mp.rnum_len 1 s1
  rw [e1] at n1
  rw [e2] at n2
  simp only at n1 n2
  have hg : Mp.gramOf 3 body = (⟨cn, 3, 0, 0, ak, []⟩ : Mp.Gram) := by
    unfold Mp.gramOf
    simp only [e1, e2]
    rfl
  have HR := Lib.hid (show Mp.gramDec b = if Mp.gramEnc (⟨cn, 3, 0, 0, ak, []⟩ : Mp.Gram) = some b then some (⟨cn, 3, 0, 0, ak, []⟩ : Mp.Gram) else none by unfold Mp.gramDec; rw [hn]; simp only [hg])
  have E1 := Lib.hid e1
  have E2 := Lib.hid e2
  clear hn e1 e2 hg
  have l0 := Blk.newAt w 38 #[.int .i64 0, .int .i64 0, .int .i64 0, .int .i64 0, .int .i64 0, .slice none 0 0] _ rfl
  go_enter Try.func37, Try.ntmps37
  go_wp2_with fail
  refine HU.out.mono ?_
  rintro e w1 ⟨b1, A1, c1, rfl, o1, f1⟩
  have l1 := l0.below b1 l0.lt
  go_wp2_with fail
  refine (rRead A1 body c1 o1.seg (by omega)).mono ?_
  rintro e w2 ⟨g, rfl, r2, b2⟩
  have l2 := l1.below b2 l1.lt
  go_wp2_with fail
  refine (rNum r2 4 (by omega) (by omega) (by simp; omega)).mono ?_
  rw [E1.out]
  rintro e w3 ⟨rfl, r3, b3, u3⟩
  have l3 := l2.below b3 l1.lt
  go_wp2_with fail
  have m3 := Blk.newAt w3 38 #[.int .i64 cn, .int .i64 3, .int .i64 0, .int .i64 0, .int .i64 0, .slice none 0 0] _ rfl
  have r3' := r3.alloc (.cells #[.int .i64 cn, .int .i64 3, .int .i64 0, .int .i64 0, .int .i64 0, .slice none 0 0] 38)
  have l3' := l3.alloc (.cells #[.int .i64 cn, .int .i64 3, .int .i64 0, .int .i64 0, .int .i64 0, .slice none 0 0] 38)
  have hgl : g < w3.heap.size := by obtain ⟨_, _, _, hg, _⟩ := r3; exact hg.lt
  have hg1 : w1.heap.size ≤ g := r3.1
  have hl1 := l1.lt
  have h31 := b3.size
  have h21 := b2.size
  have B3 : Below w.heap.size w (w3.alloc (.cells #[.int .i64 cn, .int .i64 3, .int .i64 0, .int .i64 0, .int .i64 0, .slice none 0 0] 38)) :=
    (((((Below.refl _ w).alloc (Nat.le_refl _) _).trans (b1.mono (by simp))).trans (b2.mono (by omega))).trans (b3.mono (by omega))).alloc (by omega) _
  refine (rNum r3' 1 (by omega) (by omega) (by omega)).mono ?_
  rw [E2.out]
  rintro e w4 ⟨rfl, r4, b4, u4⟩
  simp only at r4
  have m4 := u4.blk m3 (by simp; omega)
  have l4 := u4.blk l3' (by simp; omega)
  have B4 := B3.trans (b4.mono (by omega))
  obtain ⟨k0, k1, k2, k3, k4, k5⟩ := cells6 m4
  have fz : ∀ i, w4.frozen? ⟨w3.heap.size, i, none⟩ = false := fun i => m4.frozen i
  clear r2 r3 r3' l0 l1 l2 l3 l3' m3 u3 u4 b1 b2 b3 b4
  go_wp2_with fail
  obtain ⟨m8, u8, kk8⟩ := store1 (i := 4) m4 (.int .i64 ak) _ rfl rfl
  simp at m8
  have l8 := u8.blk l4 (by simp; omega)
  have B8 := B4.trans (upd_below u8 (B := w.heap.size) (by simp; omega) B4.size)
  generalize (w4.setCell ⟨w3.heap.size, 4, none⟩ (.int .i64 ak)) = w8 at m8 l8 B8 ⊢
  clear k0 k1 k2 k3 k4 k5 fz m4 l4 r4 u8 kk8 B3 B4
  have hL6 : w3.heap.size < w8.heap.size := m8.lt
  generalize hL : w3.heap.size = L at m8 hgl h31 hL6 ⊢
  have hbs := hs.below B8
  obtain ⟨G, hG⟩ : ∃ G : Mp.Gram, G = (⟨cn, 3, 0, 0, ak, []⟩ : Mp.Gram) := ⟨_, rfl⟩
  have hgv : gv G none 0 = #[.int .i64 cn, .int .i64 3, .int .i64 0, .int .i64 0, .int .i64 ak, .slice none 0 0] := by rw [hG]; rfl
  have HE := Lib.hid (gramEncode G none 0 w8 (by rw [hG]; exact Seg.nil _ _ _) (by rw [hG]; simp))
  rw [hgv] at HE
  rw [← hG] at HR
  have hw0 : w.heap.size ≠ L := by omega
  have hbd : ∀ w', RetG w (some G) (.returned (.tuple #[.agg #[.int .i64 cn, .int .i64 3, .int .i64 0, .int .i64 0, .int .i64 ak, .slice none 0 0], .int .i64 0])) w' ↔ Below w.heap.size w w' := by
    intro w'
    subst hG
    constructor
    · rintro ⟨h1, _⟩
      exact h1
    · intro h1
      exact ⟨h1, none, 0, rfl, by simp, Seg.nil _ _ _, by simp⟩
  have HBD := Lib.hid hbd
  have hwl := hs.below B8
  have hLt := m8.lt
  have hz8 := B8.size
  have hl0 := l8.lt
  have hEl := @gramEnc_length G
  clear hbd hG hgv o1
  obtain ⟨k0, k1, k2, k3, k4, k5⟩ := cells6 m8
  cases hen : Mp.gramEnc G with
  | none =>
    rw [hen] at HR HE
    have HR2 : Hid (Mp.gramDec b = none) := by refine Lib.hid ?_; rw [HR.out]; rfl
    clear HR hen
    refine HE.out.mono ?_
    rintro e w9 ⟨b9, rfl⟩
    have l9 := l8.below b9 hl0
    obtain ⟨j0, j1, j2, j3, j4, j5⟩ := cells6 l9
    have fz : ∀ i, w9.frozen? ⟨w.heap.size, i, none⟩ = false := fun i => l9.frozen i
    go_wp2
    obtain ⟨q1, q2, q3⟩ := set6 l9 (.int .i64 0) (.int .i64 0) (.int .i64 0) (.int .i64 0) (.int .i64 0) (.slice none 0 0) _ rfl
    obtain ⟨i0, i1, i2, i3, i4, i5⟩ := cells6 q1
    refine bodyPost_ret (v := .tuple #[.agg #[.int .i64 0, .int .i64 0, .int .i64 0, .int .i64 0, .int .i64 0, .slice none 0 0], .int .i64 2]) (by simp [results, Try.f37, go_sem, i0, i1, i2, i3, i4, i5]) rfl ?_
    rw [HR2.out]
    exact ⟨(B8.trans (b9.mono hz8)).trans (upd_below q2 (by simp) (by have := b9.size; omega)), 2, by decide, rfl⟩
  | some l =>
    rw [hen] at HR HE
    have hll := hEl hen
    clear hen
    refine HE.out.mono ?_
    rintro e w9 ⟨b9, A9, c9, rfl, o9, f9⟩
    have l9 := l8.below b9 hl0
    have m9 := m8.below b9 hLt
    obtain ⟨j0, j1, j2, j3, j4, j5⟩ := cells6 l9
    obtain ⟨p0, p1, p2, p3, p4, p5⟩ := cells6 m9
    have fz : ∀ i, w9.frozen? ⟨w.heap.size, i, none⟩ = false := fun i => l9.frozen i
    have HQ := Lib.hid (bytesEq l b A9 A c9 c w9 o9.seg (hwl.below b9))
    by_cases heq : l = b
    · subst heq
      have HR2 : Hid (Mp.gramDec l = some G) := by refine Lib.hid ?_; rw [HR.out, if_pos rfl]
      clear HR
      have hq : (l == l) = true := by simp
      rw [hq] at HQ
      go_wp2_with (go_at_call 59; (with_reducible refine HQ.out.mono ?_); rintro e w10 ⟨rfl, rfl⟩)
      obtain ⟨q1, q2, q3⟩ := set6 l9 (.int .i64 cn) (.int .i64 3) (.int .i64 0) (.int .i64 0) (.int .i64 ak) (.slice none 0 0) _ rfl
      obtain ⟨i0, i1, i2, i3, i4, i5⟩ := cells6 q1
      refine bodyPost_ret (v := .tuple #[.agg #[.int .i64 cn, .int .i64 3, .int .i64 0, .int .i64 0, .int .i64 ak, .slice none 0 0], .int .i64 0]) (by simp [results, Try.f37, go_sem, i0, i1, i2, i3, i4, i5]) rfl ?_
      rw [HR2.out, HBD.out]
      exact (B8.trans (b9.mono hz8)).trans (upd_below q2 (by simp) (by have := b9.size; omega))
    · have HR2 : Hid (Mp.gramDec b = none) := by refine Lib.hid ?_; rw [HR.out, if_neg (by simpa using heq)]
      clear HR
      have hq : (l == b) = false := by simpa using heq
      rw [hq] at HQ
      clear heq
      go_wp2_with (go_at_call 59; (with_reducible refine HQ.out.mono ?_); rintro e w10 ⟨rfl, rfl⟩)
      obtain ⟨q1, q2, q3⟩ := set6 l9 (.int .i64 0) (.int .i64 0) (.int .i64 0) (.int .i64 0) (.int .i64 0) (.slice none 0 0) _ rfl
      obtain ⟨i0, i1, i2, i3, i4, i5⟩ := cells6 q1
      refine bodyPost_ret (v := .tuple #[.agg #[.int .i64 0, .int .i64 0, .int .i64 0, .int .i64 0, .int .i64 0, .slice none 0 0], .int .i64 2]) (by simp [results, Try.f37, go_sem, i0, i1, i2, i3, i4, i5]) rfl ?_
      rw [HR2.out]
      exact ⟨(B8.trans (b9.mono hz8)).trans (upd_below q2 (by simp) (by have := b9.size; omega)), 2, by decide, rfl⟩

set_option maxRecDepth 100000 in
set_option maxHeartbeats 400000 in
theorem gramDecX (A : Option Addr) (b : Mp.Bytes) (c : Nat) (w : World) (hs : Seg w 5 A (bv b)) (hcap : b.length ≤ c) (hb : b.length ≤ 35184372088832) (body : Mp.Bytes) (kd : Int) (hn : Mp.unwrap b = some (kd, body)) (h1 : kd ≠ 1) (h2 : kd ≠ 2) (h3 : kd ≠ 3) :
    Calls Try.prog 37 #[.slice A b.length c] w (RetG w (Mp.gramDec b)) := by
  have HU := Lib.hid (frameUnwrap A b c (w.alloc (.cells #[.int .i64 0, .int .i64 0, .int .i64 0, .int .i64 0, .int .i64 0, .slice none 0 0] 38)) (hs.alloc _) hcap hb)
  rw [hn] at HU
  have hbl := Mp.unwrap_len hn
  obtain ⟨cn, s1, e1⟩ : ∃ x y, Mp.rnum 4 (body, false) = (x, y) := ⟨_, _, rfl⟩
  have n1 := Mp.rnum_len 4 (body, false)
  rw [e1] at n1
  simp only at n1
  have hg : Mp.gramOf kd body = (⟨cn, kd, 0, 0, 0, []⟩ : Mp.Gram) := by
    unfold Mp.gramOf
    rw [if_neg h1, if_neg h2, if_neg h3]
    simp only [e1]
  have HR := Lib.hid (show Mp.gramDec b = if Mp.gramEnc (⟨cn, kd, 0, 0, 0, []⟩ : Mp.Gram) = some b then some (⟨cn, kd, 0, 0, 0, []⟩ : Mp.Gram) else none by unfold Mp.gramDec; rw [hn]; simp only [hg])
  have E1 := Lib.hid e1
  have d1 : (kd == 1) = false := by simpa using h1
  have d2 : (kd == 2) = false := by simpa using h2
  have d3 : (kd == 3) = false := by simpa using h3
  clear hn e1 hg
  have l0 := Blk.newAt w 38 #[.int .i64 0, .int .i64 0, .int .i64 0, .int .i64 0, .int .i64 0, .slice none 0 0] _ rfl
  go_enter Try.func37, Try.ntmps37
  go_wp2_with fail
  refine HU.out.mono ?_
  rintro e w1 ⟨b1, A1, c1, rfl, o1, f1⟩
  have l1 := l0.below b1 l0.lt
  go_wp2_with fail
  refine (rRead A1 body c1 o1.seg (by omega)).mono ?_
  rintro e w2 ⟨g, rfl, r2, b2⟩
  have l2 := l1.below b2 l1.lt
  go_wp2_with fail
  refine (rNum r2 4 (by omega) (by omega) (by simp; omega)).mono ?_
  rw [E1.out]
  rintro e w3 ⟨rfl, r3, b3, u3⟩
  have l3 := l2.below b3 l1.lt
  go_wp2_with fail
  have m3 := Blk.newAt w3 38 #[.int .i64 cn, .int .i64 kd, .int .i64 0, .int .i64 0, .int .i64 0, .slice none 0 0] _ rfl
  have r3' := r3.alloc (.cells #[.int .i64 cn, .int .i64 kd, .int .i64 0, .int .i64 0, .int .i64 0, .slice none 0 0] 38)
  have l3' := l3.alloc (.cells #[.int .i64 cn, .int .i64 kd, .int .i64 0, .int .i64 0, .int .i64 0, .slice none 0 0] 38)
  have hgl : g < w3.heap.size := by obtain ⟨_, _, _, hg, _⟩ := r3; exact hg.lt
  have hg1 : w1.heap.size ≤ g := r3.1
  have hl1 := l1.lt
  have h31 := b3.size
  have h21 := b2.size
  have B3 : Below w.heap.size w (w3.alloc (.cells #[.int .i64 cn, .int .i64 kd, .int .i64 0, .int .i64 0, .int .i64 0, .slice none 0 0] 38)) :=
    (((((Below.refl _ w).alloc (Nat.le_refl _) _).trans (b1.mono (by simp))).trans (b2.mono (by omega))).trans (b3.mono (by omega))).alloc (by omega) _
  obtain ⟨w8, hw8⟩ : ∃ W, W = w3.alloc (.cells #[.int .i64 cn, .int .i64 kd, .int .i64 0, .int .i64 0, .int .i64 0, .slice none 0 0] 38) := ⟨_, rfl⟩
  rw [← hw8] at m3 l3' B3 ⊢
  have m8 := m3
  have l8 := l3'
  have B8 := B3
  clear hw8 r2 r3 r3' l0 l1 l2 l3 l3' m3 u3 b1 b2 b3 B3 
  have hL6 : w3.heap.size < w8.heap.size := m8.lt
  generalize hL : w3.heap.size = L at m8 hgl h31 hL6 ⊢
  have hbs := hs.below B8
  obtain ⟨G, hG⟩ : ∃ G : Mp.Gram, G = (⟨cn, kd, 0, 0, 0, []⟩ : Mp.Gram) := ⟨_, rfl⟩
  have hgv : gv G none 0 = #[.int .i64 cn, .int .i64 kd, .int .i64 0, .int .i64 0, .int .i64 0, .slice none 0 0] := by rw [hG]; rfl
  have HE := Lib.hid (gramEncode G none 0 w8 (by rw [hG]; exact Seg.nil _ _ _) (by rw [hG]; simp))
  rw [hgv] at HE
  rw [← hG] at HR
  have hw0 : w.heap.size ≠ L := by omega
  have hbd : ∀ w', RetG w (some G) (.returned (.tuple #[.agg #[.int .i64 cn, .int .i64 kd, .int .i64 0, .int .i64 0, .int .i64 0, .slice none 0 0], .int .i64 0])) w' ↔ Below w.heap.size w w' := by
    intro w'
    subst hG
    constructor
    · rintro ⟨h1, _⟩
      exact h1
    · intro h1
      exact ⟨h1, none, 0, rfl, by simp, Seg.nil _ _ _, by simp⟩
  have HBD := Lib.hid hbd
  have hwl := hs.below B8
  have hLt := m8.lt
  have hz8 := B8.size
  have hl0 := l8.lt
  have hEl := @gramEnc_length G
  clear hbd hG hgv o1
  obtain ⟨k0, k1, k2, k3, k4, k5⟩ := cells6 m8
  cases hen : Mp.gramEnc G with
  | none =>
    rw [hen] at HR HE
    have HR2 : Hid (Mp.gramDec b = none) := by refine Lib.hid ?_; rw [HR.out]; rfl
    clear HR hen
    refine HE.out.mono ?_
    rintro e w9 ⟨b9, rfl⟩
    have l9 := l8.below b9 hl0
    obtain ⟨j0, j1, j2, j3, j4, j5⟩ := cells6 l9
    have fz : ∀ i, w9.frozen? ⟨w.heap.size, i, none⟩ = false := fun i => l9.frozen i
    go_wp2
    obtain ⟨q1, q2, q3⟩ := set6 l9 (.int .i64 0) (.int .i64 0) (.int .i64 0) (.int .i64 0) (.int .i64 0) (.slice none 0 0) _ rfl
    obtain ⟨i0, i1, i2, i3, i4, i5⟩ := cells6 q1
    refine bodyPost_ret (v := .tuple #[.agg #[.int .i64 0, .int .i64 0, .int .i64 0, .int .i64 0, .int .i64 0, .slice none 0 0], .int .i64 2]) (by simp [results, Try.f37, go_sem, i0, i1, i2, i3, i4, i5]) rfl ?_
    rw [HR2.out]
    exact ⟨(B8.trans (b9.mono hz8)).trans (upd_below q2 (by simp) (by have := b9.size; omega)), 2, by decide, rfl⟩
  | some l =>
    rw [hen] at HR HE
    have hll := hEl hen
    clear hen
    refine HE.out.mono ?_
    rintro e w9 ⟨b9, A9, c9, rfl, o9, f9⟩
    have l9 := l8.below b9 hl0
    have m9 := m8.below b9 hLt
    obtain ⟨j0, j1, j2, j3, j4, j5⟩ := cells6 l9
    obtain ⟨p0, p1, p2, p3, p4, p5⟩ := cells6 m9
    have fz : ∀ i, w9.frozen? ⟨w.heap.size, i, none⟩ = false := fun i => l9.frozen i
    have HQ := Lib.hid (bytesEq l b A9 A c9 c w9 o9.seg (hwl.below b9))
    by_cases heq : l = b
    · subst heq
      have HR2 : Hid (Mp.gramDec l = some G) := by refine Lib.hid ?_; rw [HR.out, if_pos rfl]
      clear HR
      have hq : (l == l) = true := by simp
      rw [hq] at HQ
      go_wp2_with (go_at_call 59; (with_reducible refine HQ.out.mono ?_); rintro e w10 ⟨rfl, rfl⟩)
      obtain ⟨q1, q2, q3⟩ := set6 l9 (.int .i64 cn) (.int .i64 kd) (.int .i64 0) (.int .i64 0) (.int .i64 0) (.slice none 0 0) _ rfl
      obtain ⟨i0, i1, i2, i3, i4, i5⟩ := cells6 q1
      refine bodyPost_ret (v := .tuple #[.agg #[.int .i64 cn, .int .i64 kd, .int .i64 0, .int .i64 0, .int .i64 0, .slice none 0 0], .int .i64 0]) (by simp [results, Try.f37, go_sem, i0, i1, i2, i3, i4, i5]) rfl ?_
      rw [HR2.out, HBD.out]
      exact (B8.trans (b9.mono hz8)).trans (upd_below q2 (by simp) (by have := b9.size; omega))
    · have HR2 : Hid (Mp.gramDec b = none) := by refine Lib.hid ?_; rw [HR.out, if_neg (by simpa using heq)]
      clear HR
      have hq : (l == b) = false := by simpa using heq
      rw [hq] at HQ
      clear heq
      go_wp2_with (go_at_call 59; (with_reducible refine HQ.out.mono ?_); rintro e w10 ⟨rfl, rfl⟩)
      obtain ⟨q1, q2, q3⟩ := set6 l9 (.int .i64 0) (.int .i64 0) (.int .i64 0) (.int .i64 0) (.int .i64 0) (.slice none 0 0) _ rfl
      obtain ⟨i0, i1, i2, i3, i4, i5⟩ := cells6 q1
      refine bodyPost_ret (v := .tuple #[.agg #[.int .i64 0, .int .i64 0, .int .i64 0, .int .i64 0, .int .i64 0, .slice none 0 0], .int .i64 2]) (by simp [results, Try.f37, go_sem, i0, i1, i2, i3, i4, i5]) rfl ?_
      rw [HR2.out]
      exact ⟨(B8.trans (b9.mono hz8)).trans (upd_below q2 (by simp) (by have := b9.size; omega)), 2, by decide, rfl⟩

theorem gramDecode (A : Option Addr) (b : Mp.Bytes) (c : Nat) (w : World) (hs : Seg w 5 A (bv b)) (hcap : b.length ≤ c) (hb : b.length ≤ 35184372088832) :
    Calls Try.prog 37 #[.slice A b.length c] w (RetG w (Mp.gramDec b)) := by
  cases hn : Mp.unwrap b with
  | none => exact gramDecNone A b c w hs hcap hb hn
  | some p =>
    obtain ⟨kd, body⟩ := p
    by_cases h1 : kd = 1
    · subst h1; exact gramDec1 A b c w hs hcap hb body hn
    · by_cases h2 : kd = 2
      · subst h2; exact gramDec2 A b c w hs hcap hb body hn
      · by_cases h3 : kd = 3
        · subst h3; exact gramDec3 A b c w hs hcap hb body hn
        · exact gramDecX A b c w hs hcap hb body kd hn h1 h2 h3
end Go.Proofs.Ytemcpldipjbleaa
