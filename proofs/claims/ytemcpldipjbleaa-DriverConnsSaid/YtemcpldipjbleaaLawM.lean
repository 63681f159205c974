/- Messages: what was written is read, and what is read was written so. No program in sight. -/
import Derived.Test.YtemcpldipjbleaaLawG
namespace Mp

/-- numbers of sizes are read, one behind another -/
def reads : List Nat → Bytes × Bool → List Int × (Bytes × Bool)
  | [], s => ([], s)
  | k :: ks, s => ((rnum k s).1 :: (reads ks (rnum k s).2).1, (reads ks (rnum k s).2).2)
def writes : List Nat → List Int → Bytes
  | k :: ks, x :: xs => be x k ++ writes ks xs
  | _, _ => []
theorem reads_ok : ∀ (ks : List Nat) (l : Bytes), ks.sum ≤ l.length → (reads ks (l, false)).2 = (l.drop ks.sum, false) ∧ writes ks (reads ks (l, false)).1 = l.take ks.sum
  | [], l, _ => ⟨by simp [reads], by simp [writes]⟩
  | k :: ks, l, h => by
    rw [List.sum_cons] at h
    obtain ⟨h1, h2⟩ := reads_ok ks (l.drop k) (by rw [List.length_drop]; omega)
    have r : rnum k (l, false) = (num (l.take k), (l.drop k, false)) := rnum_ok (by omega)
    unfold reads
    rw [r]
    simp only
    rw [h1, List.sum_cons]
    refine ⟨by rw [List.drop_drop], ?_⟩
    rw [writes, h2, be_num k (l.take k) (by rw [List.length_take]; omega), List.take_add]
theorem reads_bad : ∀ (ks : List Nat) (s : Bytes × Bool), s.2 = true → (reads ks s).2.2 = true
  | [], _, h => h
  | _ :: ks, _, h => reads_bad ks _ (rnum_short (.inl h)).2
theorem reads_short : ∀ (ks : List Nat) (l : Bytes), l.length < ks.sum → (reads ks (l, false)).2.2 = true
  | [], l, h => by simp at h
  | k :: ks, l, h => by
    rw [List.sum_cons] at h
    unfold reads
    by_cases hk : k ≤ l.length
    · have r : rnum k (l, false) = (num (l.take k), (l.drop k, false)) := rnum_ok hk
      rw [r]
      exact reads_short ks _ (by rw [List.length_drop]; omega)
    · exact reads_bad ks _ (rnum_short (.inr (by simp only; omega))).2
theorem reads_len : ∀ (ks : List Nat) (s : Bytes × Bool), (reads ks s).1.length = ks.length
  | [], _ => rfl
  | _ :: ks, _ => by simp [reads, reads_len ks]
theorem writes_len : ∀ (ks : List Nat) (xs : List Int), xs.length = ks.length → (writes ks xs).length = ks.sum
  | [], [], _ => rfl
  | k :: ks, x :: xs, h => by simp [writes, be_length, writes_len ks xs (by simpa using h)]
  | [], _ :: _, h => by simp at h
  | _ :: _, [], h => by simp at h
/-- all was read just where what was read makes the bytes anew -/
theorem reads_all (ks : List Nat) (l : Bytes) : ((reads ks (l, false)).2.2 = false ∧ (reads ks (l, false)).2.1.length = 0) ↔ writes ks (reads ks (l, false)).1 = l := by
  constructor
  · rintro ⟨h1, h2⟩
    by_cases h : ks.sum ≤ l.length
    · obtain ⟨e1, e2⟩ := reads_ok ks l h
      rw [e1] at h2
      rw [e2]
      exact List.take_of_length_le (by simp at h2; omega)
    · rw [reads_short ks l (by omega)] at h1; cases h1
  · intro h
    have hl := congrArg List.length h
    rw [writes_len ks _ (reads_len ks _)] at hl
    obtain ⟨e1, _⟩ := reads_ok ks l (by omega)
    rw [e1]
    exact ⟨rfl, by simp; omega⟩
theorem reads_write : ∀ (ks : List Nat) (xs : List Int) (l : Bytes), xs.length = ks.length → (∀ p ∈ ks.zip xs, 0 ≤ p.2 ∧ p.2 < 256 ^ p.1) → reads ks (writes ks xs ++ l, false) = (xs, (l, false))
  | [], [], l, _, _ => rfl
  | k :: ks, x :: xs, l, h, hx => by
    have h0 := hx (k, x) (by simp)
    have r : rnum k (writes (k :: ks) (x :: xs) ++ l, false) = (x, (writes ks xs ++ l, false)) := by
      rw [rnum_ok (by simp [writes, be_length])]
      simp only [writes, List.append_assoc]
      rw [num_take_be k x _ h0.1 h0.2, drop_be]
    unfold reads
    rw [r]
    simp only
    rw [reads_write ks xs l (by simpa using h) (fun p hp => hx p (by simp [hp]))]
  | [], _ :: _, _, h, _ => by simp at h
  | _ :: _, [], _, h, _ => by simp at h

/-- what was written, if it is not spoilt -/
def opt (s : Bytes × Bool) : Option Bytes := if s.2 then none else some s.1
theorem wr_bad (size : Int) : ∀ (l : List Int) (s : Bytes × Bool), s.2 = true → (wr size l s).2 = true
  | [], s, h => h
  | x :: l, s, h => by
    unfold wr
    split
    · exact wr_bad size l _ h
    · rfl
theorem opt_nums (size : Int) (hs : okSize size = true) (l : List Int) (s : Bytes × Bool) : opt (nums size l s) = (opt s).bind fun b => if l.all (fits size) then some (b ++ l.flatMap (fun x => be x size.toNat)) else none := by
  obtain ⟨b, sp⟩ := s
  unfold nums
  rw [if_pos hs]
  cases sp
  · simp only [opt, Bool.false_eq_true, if_false, Option.bind_some]
    induction l generalizing b with
    | nil => simp [wr]
    | cons x l ih =>
      unfold wr
      by_cases hx : fits size x = true
      · rw [if_pos hx]
        simp only
        rw [ih]
        simp [hx]
      · rw [if_neg hx]
        have hx : fits size x = false := by simpa using hx
        simp [hx]
  · have := wr_bad size l (b, true) rfl
    simp [opt, this]
theorem msgEnc_opt (m : Msg) : msgEnc m = if (msgW m ([], false)).2 then opt (msgW m ([], false)).1 else none := by
  unfold msgEnc opt
  simp only
  cases (msgW m ([], false)).2 <;> cases (msgW m ([], false)).1.2 <;> rfl

theorem msgW1 {m : Msg} (h : m.kind = 1) (s : Bytes × Bool) : msgW m s = (nums 2 [m.pos, m.dest] (nums 1 [1] s), true) := by unfold msgW; rw [h]; rfl
theorem msgW2 {m : Msg} (h : m.kind = 2) (s : Bytes × Bool) : msgW m s = (nums 2 [m.pos] (nums 1 [2] s), true) := by unfold msgW; rw [h]; rfl
theorem msgW9 {m : Msg} (h : m.kind = 9) (s : Bytes × Bool) : msgW m s = (nums 2 [m.pos] (nums 1 [9] s), true) := by unfold msgW; rw [h]; rfl
theorem msgW5 {m : Msg} (h : m.kind = 5) (s : Bytes × Bool) : msgW m s = (nums 2 m.edges (nums 2 [(m.edges.length : Int)] (nums 5 [m.weight] (nums 1 [5] s))), decide (m.edges.length ≤ 512)) := by unfold msgW; rw [h]; rfl
theorem msgW7 {m : Msg} (h : m.kind = 7) (s : Bytes × Bool) : msgW m s = (nums 5 [m.hint.far, m.hint.left] (nums 2 [m.hint.edge + 1] (nums 1 [m.hint.cls] (nums 1 [7] s))), true) := by unfold msgW; rw [h]; rfl
theorem msgW3 {m : Msg} (h : m.kind = 3 ∨ m.kind = 4 ∨ m.kind = 6 ∨ m.kind = 8) (s : Bytes × Bool) : msgW m s = (nums 1 [m.kind] s, true) := by
  unfold msgW
  rcases h with h | h | h | h <;> (rw [h]; rfl)
theorem msgEnc1 (m : Msg) (h : m.kind = 1) : msgEnc m = if fits 2 m.pos = true ∧ fits 2 m.dest = true then some (writes [1, 2, 2] [1, m.pos, m.dest]) else none := by
  rw [msgEnc_opt, msgW1 h]
  simp only [if_true]
  rw [opt_nums 2 rfl, opt_nums 1 rfl]
  simp [opt, writes, show fits 1 1 = true from rfl]
theorem msgEnc2 (m : Msg) (h : m.kind = 2 ∨ m.kind = 9) : msgEnc m = if fits 2 m.pos = true then some (writes [1, 2] [m.kind, m.pos]) else none := by
  rw [msgEnc_opt]
  rcases h with h | h
  · rw [msgW2 h]
    simp only [if_true]
    rw [opt_nums 2 rfl, opt_nums 1 rfl, h]
    simp [opt, writes, show fits 1 2 = true from rfl]
  · rw [msgW9 h]
    simp only [if_true]
    rw [opt_nums 2 rfl, opt_nums 1 rfl, h]
    simp [opt, writes, show fits 1 9 = true from rfl]
theorem msgEnc5 (m : Msg) (h : m.kind = 5) : msgEnc m = if m.edges.length ≤ 512 ∧ fits 5 m.weight = true ∧ m.edges.all (fits 2) = true then some (be 5 1 ++ (be m.weight 5 ++ (be m.edges.length 2 ++ m.edges.flatMap (fun x => be x 2)))) else none := by
  rw [msgEnc_opt, msgW5 h]
  by_cases hl : m.edges.length ≤ 512
  · simp only [hl, decide_true, if_true, true_and]
    rw [opt_nums 2 rfl, opt_nums 2 rfl, opt_nums 5 rfl, opt_nums 1 rfl]
    have h2 : fits 2 (m.edges.length : Int) = true := fits2 (by omega) (by omega)
    have h1 : fits 1 5 = true := rfl
    by_cases hw : fits 5 m.weight = true
    · simp [opt, h1, h2, hw]
    · simp [opt, h1, hw]
  · simp [hl]
theorem msgEnc7 (m : Msg) (h : m.kind = 7) : msgEnc m = if fits 1 m.hint.cls = true ∧ fits 2 (m.hint.edge + 1) = true ∧ fits 5 m.hint.far = true ∧ fits 5 m.hint.left = true then some (writes [1, 1, 2, 5, 5] [7, m.hint.cls, m.hint.edge + 1, m.hint.far, m.hint.left]) else none := by
  rw [msgEnc_opt, msgW7 h]
  simp only [if_true]
  rw [opt_nums 5 rfl, opt_nums 2 rfl, opt_nums 1 rfl, opt_nums 1 rfl]
  have h1 : fits 1 7 = true := rfl
  by_cases a : fits 1 m.hint.cls = true
  · by_cases b : fits 2 (m.hint.edge + 1) = true
    · simp [opt, h1, writes, a, b]
    · simp [opt, h1, a, b]
  · simp [opt, h1, a]
theorem msgEnc3 (m : Msg) (h : m.kind = 3 ∨ m.kind = 4 ∨ m.kind = 6 ∨ m.kind = 8) : msgEnc m = some (writes [1] [m.kind]) := by
  rw [msgEnc_opt, msgW3 h]
  simp only [if_true]
  rw [opt_nums 1 rfl]
  rcases h with h | h | h | h <;> (rw [h]; rfl)
theorem msgEnc0 (m : Msg) (h : ¬ (1 ≤ m.kind ∧ m.kind ≤ 9)) : msgEnc m = none := by
  rw [msgEnc_opt]
  unfold msgW
  simp only
  rw [if_neg (show ¬ m.kind = 1 by omega), if_neg (show ¬ (m.kind = 2 ∨ m.kind = 9) by omega), if_neg (show ¬ m.kind = 5 by omega), if_neg (show ¬ m.kind = 7 by omega)]
  have : decide (m.kind = 3 ∨ m.kind = 4 ∨ m.kind = 6 ∨ m.kind = 8) = false := by simp; omega
  rw [this]
  rfl

/-- edges as the program reads them: so many at most -/
def redges : Nat → Bytes × Bool → List Int
  | 0, _ => []
  | n + 1, s => if 0 < rleft s then (rnum 2 s).1 :: redges n (rnum 2 s).2 else []
/-- the message of bytes, as the program reads it -/
def msgOf (b : Bytes) : Msg :=
  let k := rnum 1 (b, false)
  if k.1 = 1 then
    let p := rnum 2 k.2
    ⟨1, p.1, (rnum 2 p.2).1, [], 0, .zero⟩
  else if k.1 = 2 ∨ k.1 = 9 then ⟨k.1, (rnum 2 k.2).1, 0, [], 0, .zero⟩
  else if k.1 = 5 then
    let p := rnum 5 k.2
    let n := rnum 2 p.2
    ⟨5, 0, 0, redges n.1.toNat n.2, p.1, .zero⟩
  else if k.1 = 7 then
    let c := rnum 1 k.2
    let e := rnum 2 c.2
    let f := rnum 5 e.2
    ⟨7, 0, 0, [], 0, ⟨c.1, e.1 - 1, f.1, (rnum 5 f.2).1⟩⟩
  else ⟨k.1, 0, 0, [], 0, .zero⟩
def msgDec (b : Bytes) : Option Msg := if msgEnc (msgOf b) = some b then some (msgOf b) else none

/-- edges as the document reads them -/
def redgesR : Nat → Bytes × Bool → List Int × (Bytes × Bool)
  | 0, s => ([], s)
  | n + 1, s => if s.2 then ([], s) else ((rnum 2 s).1 :: (redgesR n (rnum 2 s).2).1, (redgesR n (rnum 2 s).2).2)
/-- the message of bytes, and the reader behind it, as the document reads it -/
def msgOfR (b : Bytes) : Msg × (Bytes × Bool) :=
  let k := rnum 1 (b, false)
  if k.1 = 1 then
    let p := rnum 2 k.2
    let d := rnum 2 p.2
    (⟨1, p.1, d.1, [], 0, .zero⟩, d.2)
  else if k.1 = 2 ∨ k.1 = 9 then (⟨k.1, (rnum 2 k.2).1, 0, [], 0, .zero⟩, (rnum 2 k.2).2)
  else if k.1 = 5 then
    let p := rnum 5 k.2
    let n := rnum 2 p.2
    let e := redgesR n.1.toNat n.2
    (⟨5, 0, 0, e.1, p.1, .zero⟩, e.2)
  else if k.1 = 7 then
    let c := rnum 1 k.2
    let e := rnum 2 c.2
    let f := rnum 5 e.2
    let l := rnum 5 f.2
    (⟨7, 0, 0, [], 0, ⟨c.1, e.1 - 1, f.1, l.1⟩⟩, l.2)
  else (⟨k.1, 0, 0, [], 0, .zero⟩, k.2)
def msgDecR (b : Bytes) : Option Msg := if (msgOfR b).2.2 = false ∧ (msgOfR b).2.1.length = 0 ∧ msgEnc (msgOfR b).1 = some b then some (msgOfR b).1 else none

theorem rnum_fits (k : Nat) (s : Bytes × Bool) : fits k (rnum k s).1 = true := by
  have := rnum_lt k s
  unfold fits
  simp only [Int.toNat_natCast]
  simp [this.1, this.2]

theorem redgesR_bad (n : Nat) (s : Bytes × Bool) (h : s.2 = true) : redgesR n s = ([], s) := by
  cases n with
  | zero => rfl
  | succ n => rw [redgesR, if_pos h]
/-- all edges are there -/
theorem redgesR_ok : ∀ (n : Nat) (l : Bytes), 2 * n ≤ l.length → (redgesR n (l, false)).2 = (l.drop (2 * n), false) ∧ redges n (l, false) = (redgesR n (l, false)).1 ∧
    (redgesR n (l, false)).1.length = n ∧ (redgesR n (l, false)).1.flatMap (fun x => be x 2) = l.take (2 * n) ∧ (redgesR n (l, false)).1.all (fits 2) = true
  | 0, l, _ => by simp [redgesR, redges]
  | n + 1, l, h => by
    have r : rnum 2 (l, false) = (num (l.take 2), (l.drop 2, false)) := rnum_ok (k := 2) (by omega)
    obtain ⟨h1, h2, h3, h4, h5⟩ := redgesR_ok n (l.drop 2) (by rw [List.length_drop]; omega)
    have hf : fits 2 (rnum 2 (l, false)).1 = true := rnum_fits 2 (l, false)
    unfold redgesR redges
    rw [r] at hf ⊢
    simp only [rleft]
    simp only [Bool.false_eq_true, if_false]
    rw [if_pos (by omega), h1, h2]
    refine ⟨by rw [List.drop_drop]; congr 2; omega, rfl, by simp [h3], ?_, ?_⟩
    · rw [List.flatMap_cons, h4, be_num 2 _ (by rw [List.length_take]; omega), ← List.take_add]
      congr 1; omega
    · simp only [List.all_cons, h5, Bool.and_true]; exact hf
/-- some are not -/
theorem redgesR_short : ∀ (n : Nat) (l : Bytes), l.length < 2 * n → (redgesR n (l, false)).2.2 = true ∧ (redges n (l, false)).length ≤ n ∧ ((redges n (l, false)).length = n → l.length + 1 = 2 * n)
  | 0, l, h => by simp at h
  | n + 1, l, h => by
    unfold redgesR redges
    simp only [Bool.false_eq_true, if_false, rleft]
    by_cases h2 : 2 ≤ l.length
    · have r : rnum 2 (l, false) = (num (l.take 2), (l.drop 2, false)) := rnum_ok (k := 2) h2
      obtain ⟨i1, i2, i3⟩ := redgesR_short n (l.drop 2) (by rw [List.length_drop]; omega)
      rw [r, if_pos (by omega)]
      simp only [List.length_cons]
      refine ⟨i1, by omega, fun he => ?_⟩
      have := i3 (by omega)
      rw [List.length_drop] at this
      omega
    · have hs := (rnum_short (n := 2) (s := (l, false)) (.inr (by simp only; omega))).2
      refine ⟨by rw [redgesR_bad _ _ hs]; exact hs, ?_⟩
      have hr0 : redges n (rnum 2 (l, false)).2 = [] := by
        cases n with
        | zero => rfl
        | succ n => rw [redges, if_neg]; simp [rleft, hs]
      rw [hr0]
      split
      · simp; omega
      · simp
theorem fits_bounds {size x : Int} (h : fits size x = true) : 0 ≤ x ∧ x < 256 ^ size.toNat := by
  unfold fits at h
  simp at h
  exact h
/-- what is read of bytes of no fewer kinds -/
theorem msgDec_of {b : Bytes} {ks : List Nat} {m : Msg} {s : Bytes × Bool} (hs : s = (reads ks (b, false)).2) (he : msgEnc m = some (writes ks (reads ks (b, false)).1)) :
    (if msgEnc m = some b then some m else none) = if s.2 = false ∧ s.1.length = 0 ∧ msgEnc m = some b then some m else none := by
  have ha := reads_all ks b
  rw [← hs] at ha
  by_cases h : writes ks (reads ks (b, false)).1 = b
  · have h2 := ha.2 h
    rw [if_pos (by rw [he, h]), if_pos ⟨h2.1, h2.2, by rw [he, h]⟩]
  · rw [if_neg (by rw [he]; simpa using h), if_neg (by rw [he]; intro hh; exact h (by simpa using hh.2.2))]
/-- the program's reading of messages and the document's are one -/
theorem msgDec_eq (b : Bytes) : msgDec b = msgDecR b := by
  have f1 : ∀ s, fits 1 (rnum 1 s).1 = true := rnum_fits 1
  have f2 : ∀ s, fits 2 (rnum 2 s).1 = true := rnum_fits 2
  have f5 : ∀ s, fits 5 (rnum 5 s).1 = true := rnum_fits 5
  unfold msgDec msgDecR
  by_cases k1 : (rnum 1 (b, false)).1 = 1
  · have e1 : msgOf b = ⟨1, (rnum 2 (rnum 1 (b, false)).2).1, (rnum 2 (rnum 2 (rnum 1 (b, false)).2).2).1, [], 0, .zero⟩ := by unfold msgOf; simp only; rw [if_pos k1]
    have e2 : msgOfR b = (⟨1, (rnum 2 (rnum 1 (b, false)).2).1, (rnum 2 (rnum 2 (rnum 1 (b, false)).2).2).1, [], 0, .zero⟩, (rnum 2 (rnum 2 (rnum 1 (b, false)).2).2).2) := by unfold msgOfR; simp only; rw [if_pos k1]
    rw [e1, e2]
    refine msgDec_of (ks := [1, 2, 2]) rfl ?_
    rw [msgEnc1 _ rfl, if_pos ⟨f2 _, f2 _⟩]
    show some (writes [1, 2, 2] [1, _, _]) = some (writes [1, 2, 2] [(rnum 1 (b, false)).1, _, _])
    rw [k1]; rfl
  by_cases k2 : (rnum 1 (b, false)).1 = 2 ∨ (rnum 1 (b, false)).1 = 9
  · have e1 : msgOf b = ⟨(rnum 1 (b, false)).1, (rnum 2 (rnum 1 (b, false)).2).1, 0, [], 0, .zero⟩ := by unfold msgOf; simp only; rw [if_neg k1, if_pos k2]
    have e2 : msgOfR b = (⟨(rnum 1 (b, false)).1, (rnum 2 (rnum 1 (b, false)).2).1, 0, [], 0, .zero⟩, (rnum 2 (rnum 1 (b, false)).2).2) := by unfold msgOfR; simp only; rw [if_neg k1, if_pos k2]
    rw [e1, e2]
    refine msgDec_of (ks := [1, 2]) rfl ?_
    rw [msgEnc2 _ k2, if_pos (f2 _)]
    rfl
  by_cases k5 : (rnum 1 (b, false)).1 = 5
  · obtain ⟨p, hp⟩ : ∃ p, p = rnum 5 (rnum 1 (b, false)).2 := ⟨_, rfl⟩
    obtain ⟨n, hn⟩ : ∃ n, n = rnum 2 p.2 := ⟨_, rfl⟩
    have e1 : msgOf b = ⟨5, 0, 0, redges n.1.toNat n.2, p.1, .zero⟩ := by unfold msgOf; simp only; rw [if_neg k1, if_neg k2, if_pos k5, ← hp, ← hn]
    have e2 : msgOfR b = (⟨5, 0, 0, (redgesR n.1.toNat n.2).1, p.1, .zero⟩, (redgesR n.1.toNat n.2).2) := by unfold msgOfR; simp only; rw [if_neg k1, if_neg k2, if_pos k5, ← hp, ← hn]
    have hfp : fits 5 p.1 = true := by rw [hp]; exact f5 _
    have hfn := fits_bounds (show fits 2 n.1 = true by rw [hn]; exact f2 _)
    obtain ⟨N, hN⟩ := Int.eq_ofNat_of_zero_le hfn.1
    rw [hN] at e1 e2
    simp only [Int.toNat_natCast] at e1 e2
    have hsum : ([1, 5, 2] : List Nat).sum = 8 := rfl
    have hr : reads [1, 5, 2] (b, false) = ([(rnum 1 (b, false)).1, p.1, n.1], n.2) := by rw [hn, hp]; rfl
    rw [e1, e2]
    by_cases h8 : 8 ≤ b.length
    · obtain ⟨r1, r2⟩ := reads_ok [1, 5, 2] b (by rw [hsum]; exact h8)
      rw [hr, hsum] at r1 r2
      simp only at r1 r2
      rw [k5, hN] at r2
      by_cases hlen : 2 * N ≤ (b.drop 8).length
      · obtain ⟨a1, a2, a3, a4, a5⟩ := redgesR_ok N (b.drop 8) hlen
        rw [r1, a2]
        simp only
        rw [a1]
        by_cases hm : msgEnc ⟨5, 0, 0, (redgesR N (b.drop 8, false)).1, p.1, .zero⟩ = some b
        · have h0 : ((b.drop 8).drop (2 * N)).length = 0 := by
            have hm2 := hm
            rw [msgEnc5 _ rfl] at hm2
            split at hm2
            · injection hm2 with hm2
              have := congrArg List.length hm2
              simp only [List.length_append, be_length, a4, List.length_take] at this
              simp only [List.length_drop] at this hlen ⊢
              omega
            · cases hm2
          rw [if_pos hm, if_pos ⟨rfl, h0, hm⟩]
        · rw [if_neg hm, if_neg (fun h => hm h.2.2)]
      · obtain ⟨c1, c2, c3⟩ := redgesR_short N (b.drop 8) (by omega)
        rw [r1]
        rw [c1, if_neg, if_neg (fun h => absurd h.1 (by simp))]
        intro hm
        rw [msgEnc5 _ rfl] at hm
        split at hm
        · rename_i hc
          injection hm with hm
          simp only at hm hc
          have hl := congrArg List.length hm
          have hfl : ∀ l : List Int, (l.flatMap (fun x => be x 2)).length = 2 * l.length := by
            intro l; induction l with
            | nil => rfl
            | cons x l ih => simp only [List.flatMap_cons, List.length_append, be_length, ih, List.length_cons]; omega
          simp only [List.length_append, be_length, hfl] at hl
          rw [List.length_drop] at c3 hlen
          have ht : writes [1, 5, 2] [5, p.1, ((redges N (b.drop 8, false)).length : Int)] = b.take 8 := by
            conv => rhs; rw [← hm]
            rw [← List.append_assoc, ← List.append_assoc, List.take_append_of_le_length (by simp [be_length]), List.take_of_length_le (by simp [be_length])]
            simp [writes]
          rw [← r2] at ht
          simp only [writes, List.append_nil] at ht
          have ht2 := (List.append_inj' (List.append_inj' ht (by simp [be_length])).2 (by simp [be_length])).2
          have ht3 := congrArg num ht2
          rw [num_be 2 _ (by omega) (by omega), num_be 2 _ (by omega) (by rw [← hN]; exact hfn.2)] at ht3
          have hnn := c3 (by omega)
          omega
        · cases hm
    · have hb := reads_short [1, 5, 2] b (by rw [hsum]; omega)
      rw [hr] at hb
      rw [redgesR_bad _ _ hb]
      have hr0 : redges N n.2 = [] := by
        cases N with
        | zero => rfl
        | succ N => rw [redges, if_neg]; simp only at hb; simp [rleft, hb]
      rw [hr0]
      have hno : ¬ msgEnc ⟨5, 0, 0, [], p.1, .zero⟩ = some b := by
        intro hm
        rw [msgEnc5 _ rfl] at hm
        split at hm
        · injection hm with hm
          have := congrArg List.length hm
          simp [be_length] at this
          omega
        · cases hm
      rw [if_neg hno, if_neg (fun h => hno h.2.2)]
  by_cases k7 : (rnum 1 (b, false)).1 = 7
  · obtain ⟨c, hc⟩ : ∃ c, c = rnum 1 (rnum 1 (b, false)).2 := ⟨_, rfl⟩
    obtain ⟨e, he⟩ : ∃ e, e = rnum 2 c.2 := ⟨_, rfl⟩
    obtain ⟨f, hf⟩ : ∃ f, f = rnum 5 e.2 := ⟨_, rfl⟩
    obtain ⟨l, hl⟩ : ∃ l, l = rnum 5 f.2 := ⟨_, rfl⟩
    have e1 : msgOf b = ⟨7, 0, 0, [], 0, ⟨c.1, e.1 - 1, f.1, l.1⟩⟩ := by unfold msgOf; simp only; rw [if_neg k1, if_neg k2, if_neg k5, if_pos k7, ← hc, ← he, ← hf, ← hl]
    have e2 : msgOfR b = (⟨7, 0, 0, [], 0, ⟨c.1, e.1 - 1, f.1, l.1⟩⟩, l.2) := by unfold msgOfR; simp only; rw [if_neg k1, if_neg k2, if_neg k5, if_pos k7, ← hc, ← he, ← hf, ← hl]
    rw [e1, e2]
    have hr : reads [1, 1, 2, 5, 5] (b, false) = ([(rnum 1 (b, false)).1, c.1, e.1, f.1, l.1], l.2) := by rw [hl, hf, he, hc]; rfl
    refine msgDec_of (ks := [1, 1, 2, 5, 5]) (by rw [hr]) ?_
    rw [msgEnc7 _ rfl, hr, k7]
    simp only
    rw [show e.1 - 1 + 1 = e.1 by omega]
    rw [if_pos ⟨by rw [hc]; exact f1 _, by rw [he]; exact f2 _, by rw [hf]; exact f5 _, by rw [hl]; exact f5 _⟩]
  · have e1 : msgOf b = ⟨(rnum 1 (b, false)).1, 0, 0, [], 0, .zero⟩ := by unfold msgOf; simp only; rw [if_neg k1, if_neg k2, if_neg k5, if_neg k7]
    have e2 : msgOfR b = (⟨(rnum 1 (b, false)).1, 0, 0, [], 0, .zero⟩, (rnum 1 (b, false)).2) := by unfold msgOfR; simp only; rw [if_neg k1, if_neg k2, if_neg k5, if_neg k7]
    rw [e1, e2]
    by_cases k3 : (rnum 1 (b, false)).1 = 3 ∨ (rnum 1 (b, false)).1 = 4 ∨ (rnum 1 (b, false)).1 = 6 ∨ (rnum 1 (b, false)).1 = 8
    · refine msgDec_of (ks := [1]) rfl ?_
      rw [msgEnc3 _ k3]
      rfl
    · have h0 : msgEnc ⟨(rnum 1 (b, false)).1, 0, 0, [], 0, .zero⟩ = none := msgEnc0 _ (by simp only; omega)
      rw [h0, if_neg (by simp), if_neg (by simp)]
end Mp
