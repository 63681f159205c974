/- Frames and datagrams: what was written is read, and what is read was written so. No program in sight. -/
import Derived.Test.YtemcpldipjbleaaDec
namespace Mp

theorem byteAt_succ (x : Int) (k : Nat) : byteAt x (k + 1) = byteAt (x / 256) k := by
  unfold byteAt
  rw [Int.pow_succ, Int.mul_comm, Int.ediv_ediv, if_neg (by omega), Int.sub_zero]
theorem byteAt_zero (x : Int) : byteAt x 0 = UInt8.ofNat (x % 256).toNat := by simp [byteAt]
theorem be_snoc (x : Int) : ∀ k, be x (k + 1) = be (x / 256) k ++ [byteAt x 0]
  | 0 => by simp [be]
  | k + 1 => by
    rw [be, byteAt_succ, be_snoc x k]
    rfl
theorem list_snoc {α : Type} (l : List α) (h : l ≠ []) : ∃ m b, l = m ++ [b] := ⟨l.dropLast, l.getLast h, (List.dropLast_concat_getLast h).symm⟩
theorem be_num : ∀ (n : Nat) (l : Bytes), l.length = n → be (num l) n = l
  | 0, l, h => by rw [List.eq_nil_of_length_eq_zero h]; rfl
  | n + 1, l, h => by
    obtain ⟨m, b, rfl⟩ := list_snoc l (by intro e; rw [e] at h; cases h)
    have hm : m.length = n := by simpa using h
    have hb := b.toNat_lt
    rw [be_snoc, num_append]
    have e1 : (num m * 256 + (b.toNat : Int)) / 256 = num m := by omega
    have e2 : (num m * 256 + (b.toNat : Int)) % 256 = b.toNat := by omega
    rw [e1, be_num n m hm, byteAt_zero, e2]
    simp
theorem num_be : ∀ (k : Nat) (x : Int), 0 ≤ x → x < 256 ^ k → num (be x k) = x
  | 0, x, h0, h1 => by simp at h1; simp [be, num]; omega
  | k + 1, x, h0, h1 => by
    rw [Int.pow_succ] at h1
    rw [be_snoc, num_append, num_be k (x / 256) (by omega) (by omega)]
    have := byteAt_wrap (x := x) 0
    simp at this
    omega

theorem num_take_be (k : Nat) (x : Int) (l : Bytes) (h0 : 0 ≤ x) (h1 : x < 256 ^ k) : num ((be x k ++ l).take k) = x := by
  rw [List.take_append_of_le_length (by rw [be_length]; exact Nat.le_refl k), List.take_of_length_le (by rw [be_length]; exact Nat.le_refl k), num_be k x h0 h1]
theorem drop_be (k : Nat) (x : Int) (l : Bytes) : (be x k ++ l).drop k = l := by
  rw [List.drop_append_of_le_length (by rw [be_length]; exact Nat.le_refl k), List.drop_of_length_le (by rw [be_length]; exact Nat.le_refl k), List.nil_append]

theorem be_take (l : Bytes) (k : Nat) (h : k ≤ l.length) : be (num (l.take k)) k ++ l.drop k = l := by
  rw [be_num k (l.take k) (by rw [List.length_take]; omega), List.take_append_drop]

/-- what was wrapped is in the frame -/
theorem unwrap_summed {kind : Int} (h0 : 0 ≤ kind) (h1 : kind ≤ 255) (body : Bytes) (hb : body.length ≤ 2000) : unwrap (summed (headed kind body)) = some (kind, body) := by
  have hl := summed_length (headed kind body)
  rw [headed_length] at hl
  have e : summed (headed kind body) = be 77 1 ++ (be 3 1 ++ (be kind 1 ++ (be body.length 2 ++ (body ++ be ((crc (headed kind body)).toNat : Int) 4)))) := by
    simp [summed, headed, List.append_assoc]
  have hc := (crc (headed kind body)).toNat_lt
  have d3 : (summed (headed kind body)).drop 3 = be body.length 2 ++ (body ++ be ((crc (headed kind body)).toNat : Int) 4) := by
    rw [e, show (3 : Nat) = 1 + (1 + 1) from rfl, ← List.drop_drop, ← List.drop_drop, drop_be, drop_be, drop_be]
  have d5 : (summed (headed kind body)).drop 5 = body ++ be ((crc (headed kind body)).toNat : Int) 4 := by
    rw [show (5 : Nat) = 3 + 2 from rfl, ← List.drop_drop, d3, drop_be]
  have n3 : num (((summed (headed kind body)).drop 3).take 2) = body.length := by rw [d3, num_take_be 2 _ _ (by omega) (by omega)]
  have hh : (summed (headed kind body)).head? = some 77 := by rw [e]; rfl
  have t5 : (summed (headed kind body)).take (5 + body.length) = headed kind body := by
    unfold summed
    rw [List.take_append_of_le_length (by rw [headed_length]; omega), List.take_of_length_le (by rw [headed_length]; omega)]
  have dn : ((summed (headed kind body)).drop (5 + body.length)) = be ((crc (headed kind body)).toNat : Int) 4 := by
    rw [← List.drop_drop, d5]; simp
  have d1 : (summed (headed kind body)).drop 1 = be 3 1 ++ (be kind 1 ++ (be body.length 2 ++ (body ++ be ((crc (headed kind body)).toNat : Int) 4))) := by rw [e, drop_be]
  have d2 : (summed (headed kind body)).drop 2 = be kind 1 ++ (be body.length 2 ++ (body ++ be ((crc (headed kind body)).toNat : Int) 4)) := by
    rw [show (2 : Nat) = 1 + 1 from rfl, ← List.drop_drop, d1, drop_be]
  unfold unwrap
  rw [if_neg (by rw [hh, hl]; simp)]
  simp only [n3, Int.toNat_natCast, dn, t5, d1, d2]
  rw [if_neg (by rw [hl]; omega), if_neg, if_neg, if_neg (by omega)]
  · rw [num_take_be 1 _ _ h0 (by omega), d5]; simp
  · rw [num_take_be 1 _ _ (by decide) (by decide)]; simp
  · rw [List.take_of_length_le (by rw [be_length]; exact Nat.le_refl 4), num_be 4 _ (by omega) (by omega)]; simp

/-- what is in a frame was wrapped -/
theorem unwrap_some {b : Bytes} {kind : Int} {body : Bytes} (h : unwrap b = some (kind, body)) : 0 ≤ kind ∧ kind ≤ 255 ∧ body.length ≤ 2000 ∧ b = summed (headed kind body) := by
  unfold unwrap at h
  split at h
  · cases h
  rename_i h1
  simp only [not_or, Classical.not_not] at h1
  obtain ⟨h9, h77⟩ := h1
  have h9 : 9 ≤ b.length := by omega
  simp only at h
  generalize hn : (num ((b.drop 3).take 2)).toNat = n at h
  split at h
  · cases h
  rename_i h2
  have h2 : b.length = n + 9 := by omega
  split at h
  · cases h
  rename_i h3
  simp only [Classical.not_not] at h3
  split at h
  · cases h
  rename_i h4
  simp only [Classical.not_not] at h4
  split at h
  · cases h
  rename_i h5
  injection h with h
  injection h with hk hb
  have a := num_take_lt (b.drop 2) 1
  have a3 := num_take_lt (b.drop 3) 2
  have hbl : body.length = n := by rw [← hb, List.length_take, List.length_drop]; omega
  have hb1 : b = be 77 1 ++ b.drop 1 := by
    cases b with
    | nil => simp at h9
    | cons x l => simp at h77; subst h77; rfl
  have hb2 : b.drop 1 = be 3 1 ++ b.drop 2 := by
    have := be_take (b.drop 1) 1 (by rw [List.length_drop]; omega)
    rw [h4, List.drop_drop] at this
    exact this.symm
  have hb3 : b.drop 2 = be kind 1 ++ b.drop 3 := by
    have := be_take (b.drop 2) 1 (by rw [List.length_drop]; omega)
    rw [hk, List.drop_drop] at this
    exact this.symm
  have hb4 : b.drop 3 = be body.length 2 ++ b.drop 5 := by
    have := be_take (b.drop 3) 2 (by rw [List.length_drop]; omega)
    rw [List.drop_drop] at this
    rw [hbl, ← hn, Int.toNat_of_nonneg a3.1]
    exact this.symm
  have hb5 : b.drop 5 = body ++ b.drop (5 + n) := by
    have := List.take_append_drop n (b.drop 5)
    rw [hb, List.drop_drop] at this
    exact this.symm
  have ht : b.take (5 + n) = headed kind body := by
    have h6 : b = headed kind body ++ b.drop (5 + n) := by
      conv => lhs; rw [hb1, hb2, hb3, hb4, hb5]
      simp [headed, List.append_assoc]
    conv => lhs; rw [h6]
    rw [List.take_append_of_le_length (by rw [headed_length]; omega), List.take_of_length_le (by rw [headed_length]; omega)]
  have hd : b.drop (5 + n) = be ((crc (headed kind body)).toNat : Int) 4 := by
    have := be_num 4 (b.drop (5 + n)) (by rw [List.length_drop]; omega)
    rw [List.take_of_length_le (by rw [List.length_drop]; omega), ht] at h3
    rw [← this, h3]
  refine ⟨by omega, by omega, by omega, ?_⟩
  conv => lhs; rw [← List.take_append_drop (5 + n) b]
  rw [ht, hd]
  rfl

/-- the datagram of bytes, read as the document says -/
def gramRead (kind : Int) (body : Bytes) : Option Gram :=
  let c := rnum 4 (body, false)
  let z (g : Gram) (s : Bytes × Bool) : Option Gram := if s.2 = false ∧ s.1.length = 0 then some g else none
  if kind = 1 then
    let s := rnum 4 c.2
    let a := rnum 4 s.2
    let r := rraw (rleft a.2) a.2
    z ⟨c.1, kind, s.1, a.1, 0, r.1⟩ r.2
  else if kind = 2 then z ⟨c.1, kind, 0, (rnum 4 c.2).1, 0, []⟩ (rnum 4 c.2).2
  else if kind = 3 then z ⟨c.1, kind, 0, 0, (rnum 1 c.2).1, []⟩ (rnum 1 c.2).2
  else none
def gramDecR (b : Bytes) : Option Gram := match unwrap b with | none => none | some (kind, body) => gramRead kind body

theorem headed_inj {kind : Int} {a b : Bytes} (h : headed kind a = headed kind b) : a = b := by
  have hl := congrArg List.length h
  rw [headed_length, headed_length] at hl
  unfold headed at h
  exact (List.append_inj' h (by omega)).2
theorem summed_inj {a b : Bytes} (h : summed a = summed b) : a = b := by
  unfold summed at h
  exact (List.append_inj' h (by simp [be_length])).1
theorem wrap_is {kind : Int} {a body : Bytes} (h0 : 0 ≤ kind) (h1 : kind ≤ 255) (hb : body.length ≤ 2000) : wrap kind a = some (summed (headed kind body)) ↔ a = body := by
  unfold wrap
  constructor
  · intro h
    split at h
    · cases h
    · injection h with h
      exact headed_inj (summed_inj h)
  · rintro rfl
    rw [if_neg (by omega)]

theorem rraw_short {n : Int} {s : Bytes × Bool} (h : s.2 = true ∨ (s.1.length : Int) < n) : (rraw n s).1 = [] ∧ (rraw n s).2.2 = true := by
  unfold rraw
  split
  · rename_i h1; exact ⟨rfl, h1⟩
  · rename_i h1
    rw [if_pos]
    · exact ⟨rfl, rfl⟩
    · rcases h with h | h
      · exact absurd h h1
      · exact .inr h
theorem rnum_short {n : Int} {s : Bytes × Bool} (h : s.2 = true ∨ (s.1.length : Int) < n) : rnum n s = (0, (rraw n s).2) ∧ (rnum n s).2.2 = true := by
  obtain ⟨h1, h2⟩ := rraw_short h
  unfold rnum
  rw [h1]
  exact ⟨rfl, h2⟩
theorem nums4 (l : List Int) (s : Bytes) (h : ∀ x ∈ l, 0 ≤ x ∧ x < 4294967296) : nums 4 l (s, false) = (s ++ l.flatMap (fun x => be x 4), false) :=
  nums_all rfl l s false (fun x hx => fits4 (h x hx).1 (h x hx).2)
theorem nums1 (l : List Int) (s : Bytes) (h : ∀ x ∈ l, 0 ≤ x ∧ x < 256) : nums 1 l (s, false) = (s ++ l.flatMap (fun x => be x 1), false) :=
  nums_all rfl l s false (fun x hx => fits1 (h x hx).1 (h x hx).2)
theorem rnum_lt (k : Nat) (s : Bytes × Bool) : 0 ≤ (rnum k s).1 ∧ (rnum k s).1 < 256 ^ k := by
  unfold rnum rraw
  have h0 : (0 : Int) < 256 ^ k := Int.pow_pos (by decide)
  split
  · exact ⟨Int.le_refl 0, h0⟩
  · split
    · exact ⟨Int.le_refl 0, h0⟩
    · exact num_take_lt _ _

theorem rraw_left (s : Bytes × Bool) : rraw (rleft s) s = ((if s.2 then [] else s.1), ((if s.2 then s.1 else []), s.2)) := by
  obtain ⟨l, sp⟩ := s
  cases sp
  · simp [rleft, rraw]
  · simp [rraw]

/-- to write the datagram anew, and to have read all, is one -/
theorem gramRead_eq {kind : Int} {body : Bytes} (h0 : 0 ≤ kind) (h1 : kind ≤ 255) (hb : body.length ≤ 2000) :
    gramRead kind body = if gramEnc (gramOf kind body) = some (summed (headed kind body)) then some (gramOf kind body) else none := by
  unfold gramRead
  simp only
  by_cases k1 : kind = 1
  · subst k1
    have hg : gramEnc (gramOf 1 body) = wrap 1 (be (gramOf 1 body).conn 4 ++ be (gramOf 1 body).seq 4 ++ be (gramOf 1 body).ack 4 ++ (gramOf 1 body).body) := by
      have hk : (gramOf 1 body).kind = 1 := rfl
      have b1 : 0 ≤ (gramOf 1 body).conn ∧ (gramOf 1 body).conn < 4294967296 := rnum_lt 4 _
      have b2 : 0 ≤ (gramOf 1 body).seq ∧ (gramOf 1 body).seq < 4294967296 := rnum_lt 4 _
      have b3 : 0 ≤ (gramOf 1 body).ack ∧ (gramOf 1 body).ack < 4294967296 := rnum_lt 4 _
      generalize gramOf 1 body = g at *
      unfold gramEnc gramIn
      rw [hk, nums4 [g.conn] [] (by simpa using b1)]
      simp only [if_pos, true_or, List.nil_append, List.flatMap_cons, List.flatMap_nil, List.append_nil]
      rw [nums4 [g.seq, g.ack] _ (by intro x hx; simp at hx; rcases hx with rfl | rfl <;> assumption)]
      simp
    rw [if_pos rfl, hg]
    have hgo : gramOf 1 body = ⟨(rnum 4 (body, false)).1, 1, (rnum 4 (rnum 4 (body, false)).2).1, (rnum 4 (rnum 4 (rnum 4 (body, false)).2).2).1, 0, (rraw (rleft (rnum 4 (rnum 4 (rnum 4 (body, false)).2).2).2) (rnum 4 (rnum 4 (rnum 4 (body, false)).2).2).2).1⟩ := rfl
    rw [hgo]
    simp only [wrap_is h0 h1 hb]
    rw [rraw_left]
    by_cases h12 : 12 ≤ body.length
    · have r1 : rnum 4 (body, false) = (num (body.take 4), (body.drop 4, false)) := rnum_ok (k := 4) (by omega)
      have r2 : rnum 4 (body.drop 4, false) = (num ((body.drop 4).take 4), ((body.drop 4).drop 4, false)) := rnum_ok (k := 4) (by rw [List.length_drop]; omega)
      have r3 : rnum 4 ((body.drop 4).drop 4, false) = (num (((body.drop 4).drop 4).take 4), (((body.drop 4).drop 4).drop 4, false)) := rnum_ok (k := 4) (by rw [List.length_drop, List.length_drop]; omega)
      rw [r1]; simp only; rw [r2]; simp only; rw [r3]
      simp only [Bool.false_eq_true, if_false, List.length_nil, and_self, if_true]
      rw [if_pos]
      rw [List.append_assoc, be_take _ 4 (by rw [List.length_drop, List.length_drop]; omega), List.append_assoc, be_take _ 4 (by rw [List.length_drop]; omega), be_take _ 4 (by omega)]
    · have hsp : (rnum 4 (rnum 4 (rnum 4 (body, false)).2).2).2.2 = true := by
        by_cases h4 : body.length < 4
        · have a := (rnum_short (n := 4) (s := (body, false)) (.inr (by simp only; omega))).2
          have a2 := (rnum_short (n := 4) (s := (rnum 4 (body, false)).2) (.inl a)).2
          exact (rnum_short (n := 4) (.inl a2)).2
        · have r1 : rnum 4 (body, false) = (num (body.take 4), (body.drop 4, false)) := rnum_ok (k := 4) (by omega)
          rw [r1]
          by_cases h8 : body.length < 8
          · have a2 := (rnum_short (n := 4) (s := (body.drop 4, false)) (.inr (by simp only [List.length_drop]; omega))).2
            exact (rnum_short (n := 4) (.inl a2)).2
          · have r2 : rnum 4 (body.drop 4, false) = (num ((body.drop 4).take 4), ((body.drop 4).drop 4, false)) := rnum_ok (k := 4) (by rw [List.length_drop]; omega)
            simp only
            rw [r2]
            exact (rnum_short (n := 4) (.inr (by simp only [List.length_drop]; omega))).2
      rw [hsp, if_neg (by simp), if_neg]
      intro e
      have := congrArg List.length e
      simp [be_length] at this
      omega
  · rw [if_neg k1]
    by_cases k2 : kind = 2
    · subst k2
      have hg : gramEnc (gramOf 2 body) = wrap 2 (be (gramOf 2 body).conn 4 ++ be (gramOf 2 body).ack 4) := by
        have hk : (gramOf 2 body).kind = 2 := rfl
        have b1 : 0 ≤ (gramOf 2 body).conn ∧ (gramOf 2 body).conn < 4294967296 := rnum_lt 4 _
        have b3 : 0 ≤ (gramOf 2 body).ack ∧ (gramOf 2 body).ack < 4294967296 := rnum_lt 4 _
        generalize gramOf 2 body = g at *
        unfold gramEnc gramIn
        rw [hk, nums4 [g.conn] [] (by simpa using b1)]
        simp [nums4 [g.ack] (be g.conn 4) (by simpa using b3)]
      rw [if_pos rfl, hg]
      have hgo : gramOf 2 body = ⟨(rnum 4 (body, false)).1, 2, 0, (rnum 4 (rnum 4 (body, false)).2).1, 0, []⟩ := rfl
      rw [hgo]
      simp only [wrap_is h0 h1 hb]
      by_cases h4 : body.length < 4
      · have a := (rnum_short (n := 4) (s := (body, false)) (.inr (by simp only; omega))).2
        have a2 := (rnum_short (n := 4) (s := (rnum 4 (body, false)).2) (.inl a)).2
        rw [a2, if_neg (by simp), if_neg]
        intro e
        have := congrArg List.length e
        simp [be_length] at this
        omega
      · have r1 : rnum 4 (body, false) = (num (body.take 4), (body.drop 4, false)) := rnum_ok (k := 4) (by omega)
        rw [r1]
        by_cases h8 : body.length < 8
        · have a2 := (rnum_short (n := 4) (s := (body.drop 4, false)) (.inr (by simp only [List.length_drop]; omega))).2
          simp only
          rw [a2, if_neg (by simp), if_neg]
          intro e
          have := congrArg List.length e
          simp [be_length] at this
          omega
        · have r2 : rnum 4 (body.drop 4, false) = (num ((body.drop 4).take 4), ((body.drop 4).drop 4, false)) := rnum_ok (k := 4) (by rw [List.length_drop]; omega)
          simp only
          rw [r2]
          simp only [List.drop_drop, List.length_drop, true_and]
          by_cases h9 : body.length = 8
          · rw [if_pos (by omega), if_pos]
            have e2 : (body.drop 4).take 4 = body.drop 4 := List.take_of_length_le (by rw [List.length_drop]; omega)
            rw [e2, be_num _ (body.drop 4) (by rw [List.length_drop]; omega), be_take _ 4 (by omega)]
          · rw [if_neg (by omega), if_neg]
            intro e
            have := congrArg List.length e
            simp [be_length] at this
            omega
    · rw [if_neg k2]
      by_cases k3 : kind = 3
      · subst k3
        have hg : gramEnc (gramOf 3 body) = wrap 3 (be (gramOf 3 body).conn 4 ++ be (gramOf 3 body).code 1) := by
          have hk : (gramOf 3 body).kind = 3 := rfl
          have b1 : 0 ≤ (gramOf 3 body).conn ∧ (gramOf 3 body).conn < 4294967296 := rnum_lt 4 _
          have b3 : 0 ≤ (gramOf 3 body).code ∧ (gramOf 3 body).code < 256 := rnum_lt 1 _
          generalize gramOf 3 body = g at *
          unfold gramEnc gramIn
          rw [hk, nums4 [g.conn] [] (by simpa using b1)]
          simp [nums1 [g.code] (be g.conn 4) (by simpa using b3)]
        rw [if_pos rfl, hg]
        have hgo : gramOf 3 body = ⟨(rnum 4 (body, false)).1, 3, 0, 0, (rnum 1 (rnum 4 (body, false)).2).1, []⟩ := rfl
        rw [hgo]
        simp only [wrap_is h0 h1 hb]
        by_cases h4 : body.length < 4
        · have a := (rnum_short (n := 4) (s := (body, false)) (.inr (by simp only; omega))).2
          have a2 := (rnum_short (n := 1) (s := (rnum 4 (body, false)).2) (.inl a)).2
          rw [a2, if_neg (by simp), if_neg]
          intro e
          have := congrArg List.length e
          simp [be_length] at this
          omega
        · have r1 : rnum 4 (body, false) = (num (body.take 4), (body.drop 4, false)) := rnum_ok (k := 4) (by omega)
          rw [r1]
          by_cases h8 : body.length < 5
          · have a2 := (rnum_short (n := 1) (s := (body.drop 4, false)) (.inr (by simp only [List.length_drop]; omega))).2
            simp only
            rw [a2, if_neg (by simp), if_neg]
            intro e
            have := congrArg List.length e
            simp [be_length] at this
            omega
          · have r2 : rnum 1 (body.drop 4, false) = (num ((body.drop 4).take 1), ((body.drop 4).drop 1, false)) := rnum_ok (k := 1) (by rw [List.length_drop]; omega)
            simp only
            rw [r2]
            simp only [List.drop_drop, List.length_drop, true_and]
            by_cases h9 : body.length = 5
            · rw [if_pos (by omega), if_pos]
              have e2 : (body.drop 4).take 1 = body.drop 4 := List.take_of_length_le (by rw [List.length_drop]; omega)
              rw [e2, be_num _ (body.drop 4) (by rw [List.length_drop]; omega), be_take _ 4 (by omega)]
            · rw [if_neg (by omega), if_neg]
              intro e
              have := congrArg List.length e
              simp [be_length] at this
              omega
      · rw [if_neg k3, if_neg]
        have hk : (gramOf kind body).kind = kind := by
          unfold gramOf
          simp only
          rw [if_neg k1, if_neg k2, if_neg k3]
        unfold gramEnc
        rw [hk, if_neg (by omega)]
        simp

/-- the program's reading and the document's are one -/
theorem gramDec_eq (b : Bytes) : gramDec b = gramDecR b := by
  unfold gramDec gramDecR
  cases h : unwrap b with
  | none => rfl
  | some x =>
    obtain ⟨kind, body⟩ := x
    obtain ⟨h0, h1, h2, h3⟩ := unwrap_some h
    simp only
    rw [gramRead_eq h0 h1 h2, ← h3]

theorem summed_take {b : Bytes} {n : Nat} (h : b.length = n + 9) : summed (b.take (5 + n)) = b ↔ num ((b.drop (5 + n)).take 4) = ((crc (b.take (5 + n))).toNat : Int) := by
  have hd : (b.drop (5 + n)).length = 4 := by rw [List.length_drop]; omega
  have ht : (b.drop (5 + n)).take 4 = b.drop (5 + n) := List.take_of_length_le (by omega)
  have hc := (crc (b.take (5 + n))).toNat_lt
  rw [ht]
  unfold summed
  constructor
  · intro e
    have e2 : b.take (5 + n) ++ be ((crc (b.take (5 + n))).toNat : Int) 4 = b.take (5 + n) ++ b.drop (5 + n) := by rw [List.take_append_drop]; exact e
    rw [← List.append_cancel_left e2, num_be 4 _ (by omega) (by omega)]
  · intro e
    rw [← e, be_num 4 _ hd, List.take_append_drop]
theorem num1 (x : UInt8) : num [x] = x.toNat := by simp [num]
theorem num2 (x y : UInt8) : num [x, y] = x.toNat * 256 + y.toNat := by simp [num]
/-- a frame taken apart, byte by byte -/
theorem unwrap_cons (x0 x1 x2 x3 x4 : UInt8) (r : Bytes) {b : Bytes} (hb : b = x0 :: x1 :: x2 :: x3 :: x4 :: r) (h9 : 9 ≤ b.length) {n : Nat} (hn : (n : Int) = x3.toNat * 256 + x4.toNat) :
    unwrap b = if x0 ≠ 77 ∨ b.length ≠ n + 9 ∨ summed (b.take (5 + n)) ≠ b ∨ x1 ≠ 3 ∨ 2000 < n then none else some ((x2.toNat : Int), (b.drop 5).take n) := by
  have e0 : b.head? = some x0 := by rw [hb]; rfl
  have e1 : (b.drop 1).take 1 = [x1] := by rw [hb]; rfl
  have e2 : (b.drop 2).take 1 = [x2] := by rw [hb]; rfl
  have e3 : (b.drop 3).take 2 = [x3, x4] := by rw [hb]; rfl
  unfold unwrap
  simp only [e0, e1, e2, e3, num1, num2, ← hn, Int.toNat_natCast]
  clear e0 e1 e2 e3 hn hb
  have hx : (x1.toNat : Int) = 3 ↔ x1 = 3 := by
    rw [← UInt8.toNat_inj]
    have : (3 : UInt8).toNat = 3 := rfl
    omega
  by_cases h0 : x0 = 77
  · subst h0
    rw [if_neg (by simp; omega)]
    by_cases h1 : b.length = n + 9
    · rw [if_neg (fun h => h h1)]
      by_cases h2 : summed (b.take (5 + n)) = b
      · rw [if_neg (fun h => h ((summed_take h1).1 h2))]
        by_cases h3 : x1 = 3
        · rw [if_neg (fun h => h (hx.2 h3))]
          by_cases h4 : 2000 < n
          · rw [if_pos h4, if_pos (.inr (.inr (.inr (.inr h4))))]
          · rw [if_neg h4, if_neg (by rintro (h | h | h | h | h); exact h rfl; exact h h1; exact h h2; exact h h3; exact h4 h)]
        · rw [if_pos (fun h => h3 (hx.1 h)), if_pos (.inr (.inr (.inr (.inl h3))))]
      · rw [if_pos (fun h => h2 ((summed_take h1).2 h)), if_pos (.inr (.inr (.inl h2)))]
    · rw [if_pos h1, if_pos (.inr (.inl h1))]
  · rw [if_pos (.inr (by simpa using h0)), if_pos (.inl h0)]
end Mp
