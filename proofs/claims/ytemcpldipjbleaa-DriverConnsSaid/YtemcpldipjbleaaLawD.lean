/- What was written is read as it was: messages and datagrams. No program in sight. -/
import Derived.Test.YtemcpldipjbleaaLawM
namespace Mp

/-- a message as it is read: what its kind does not have is nothing -/
def Msg.norm (m : Msg) : Msg :=
  if m.kind = 1 then ⟨1, m.pos, m.dest, [], 0, .zero⟩
  else if m.kind = 2 ∨ m.kind = 9 then ⟨m.kind, m.pos, 0, [], 0, .zero⟩
  else if m.kind = 5 then ⟨5, 0, 0, m.edges, m.weight, .zero⟩
  else if m.kind = 7 then ⟨7, 0, 0, [], 0, m.hint⟩
  else ⟨m.kind, 0, 0, [], 0, .zero⟩

theorem redges_write : ∀ (l : List Int) (r : Bytes), l.all (fits 2) = true → redges l.length (l.flatMap (fun x => be x 2) ++ r, false) = l
  | [], _, _ => rfl
  | x :: l, r, h => by
    simp only [List.all_cons, Bool.and_eq_true] at h
    have hx := fits_bounds h.1
    have r1 : rnum 2 ((x :: l).flatMap (fun x => be x 2) ++ r, false) = (x, (l.flatMap (fun x => be x 2) ++ r, false)) := by
      rw [List.flatMap_cons, List.append_assoc]
      have := rnum_ok (k := 2) (l := be x 2 ++ (l.flatMap (fun x => be x 2) ++ r)) (by simp [be_length])
      rw [num_take_be 2 x _ hx.1 hx.2, drop_be] at this
      exact this
    have hp : 0 < rleft ((x :: l).flatMap (fun x => be x 2) ++ r, false) := by
      simp [rleft, be_length]; omega
    rw [List.length_cons, redges, if_pos hp, r1]
    simp only
    rw [redges_write l r h.2]

theorem rd3 {b : Bytes} {k1 k2 k3 : Nat} {x y z : Int} (h : reads [k1, k2, k3] (b, false) = ([x, y, z], ([], false))) :
    (rnum k1 (b, false)).1 = x ∧ (rnum k2 (rnum k1 (b, false)).2).1 = y ∧ (rnum k3 (rnum k2 (rnum k1 (b, false)).2).2).1 = z := by
  simp only [reads] at h
  injection h with h _
  injection h with h1 h
  injection h with h2 h
  injection h with h3 _
  exact ⟨h1, h2, h3⟩

theorem msgOf_enc {m : Msg} {b : Bytes} (h : msgEnc m = some b) : msgOf b = m.norm ∧ msgEnc m.norm = some b := by
  by_cases k1 : m.kind = 1
  · have hn : m.norm = ⟨1, m.pos, m.dest, [], 0, .zero⟩ := by unfold Msg.norm; rw [if_pos k1]
    have he := h
    rw [msgEnc1 m k1] at he
    split at he
    · rename_i hc
      injection he with he
      have a := fits_bounds hc.1
      have c := fits_bounds hc.2
      have hr := reads_write [1, 2, 2] [1, m.pos, m.dest] [] rfl (by intro p hp; simp at hp; rcases hp with rfl | rfl | rfl; exact ⟨by decide, by decide⟩; exact a; exact c)
      rw [List.append_nil, he] at hr
      simp only [reads] at hr
      injection hr with hr _
      injection hr with h1 hr
      injection hr with h2 hr
      injection hr with h3 _
      refine ⟨?_, ?_⟩
      · rw [hn]
        unfold msgOf
        simp only
        have h1' : (rnum 1 (b, false)).1 = 1 := h1
        rw [if_pos h1']
        have h2' : (rnum 2 (rnum 1 (b, false)).2).1 = m.pos := h2
        have h3' : (rnum 2 (rnum 2 (rnum 1 (b, false)).2).2).1 = m.dest := h3
        rw [h2', h3']
      · rw [hn, msgEnc1 _ rfl, if_pos hc, he]
    · cases he
  by_cases k2 : m.kind = 2 ∨ m.kind = 9
  · have hn : m.norm = ⟨m.kind, m.pos, 0, [], 0, .zero⟩ := by unfold Msg.norm; rw [if_neg k1, if_pos k2]
    have he := h
    rw [msgEnc2 m k2] at he
    split at he
    · rename_i hc
      injection he with he
      have a := fits_bounds hc
      have hr := reads_write [1, 2] [m.kind, m.pos] [] rfl (by intro p hp; simp at hp; rcases hp with rfl | rfl; exact ⟨by simp only; omega, by simp only; omega⟩; exact a)
      rw [List.append_nil, he] at hr
      simp only [reads] at hr
      injection hr with hr _
      injection hr with h1 hr
      injection hr with h2 _
      refine ⟨?_, ?_⟩
      · rw [hn]
        unfold msgOf
        simp only
        have h1' : (rnum 1 (b, false)).1 = m.kind := h1
        rw [h1', if_neg k1, if_pos k2]
        have h2' : (rnum 2 (rnum 1 (b, false)).2).1 = m.pos := h2
        rw [h2']
      · rw [hn, msgEnc2 ⟨m.kind, m.pos, 0, [], 0, .zero⟩ k2, if_pos hc, ← he]
    · cases he
  by_cases k5 : m.kind = 5
  · have hn : m.norm = ⟨5, 0, 0, m.edges, m.weight, .zero⟩ := by unfold Msg.norm; rw [if_neg k1, if_neg k2, if_pos k5]
    have he := h
    rw [msgEnc5 m k5] at he
    split at he
    · rename_i hc
      injection he with he
      have a := fits_bounds hc.2.1
      have hr := reads_write [1, 5, 2] [5, m.weight, (m.edges.length : Int)] (m.edges.flatMap (fun x => be x 2)) rfl (by intro p hp; simp at hp; rcases hp with rfl | rfl | rfl; exact ⟨by decide, by decide⟩; exact a; exact ⟨by simp only; omega, by simp only; omega⟩)
      have hb : writes [1, 5, 2] [5, m.weight, (m.edges.length : Int)] ++ m.edges.flatMap (fun x => be x 2) = b := by rw [← he]; simp [writes]
      rw [hb] at hr
      simp only [reads] at hr
      injection hr with hr hs
      injection hr with h1 hr
      injection hr with h2 hr
      injection hr with h3 _
      refine ⟨?_, ?_⟩
      · rw [hn]
        unfold msgOf
        simp only
        have h1' : (rnum 1 (b, false)).1 = 5 := h1
        rw [h1', if_neg (by decide), if_neg (by decide), if_pos rfl]
        have h2' : (rnum 5 (rnum 1 (b, false)).2).1 = m.weight := h2
        have h3' : (rnum 2 (rnum 5 (rnum 1 (b, false)).2).2) = ((m.edges.length : Int), (m.edges.flatMap (fun x => be x 2), false)) := Prod.ext h3 hs
        rw [h2', h3']
        simp only [Int.toNat_natCast]
        have := redges_write m.edges [] hc.2.2
        rw [List.append_nil] at this
        rw [this]
      · rw [hn, msgEnc5 _ rfl, if_pos hc, he]
    · cases he
  by_cases k7 : m.kind = 7
  · have hn : m.norm = ⟨7, 0, 0, [], 0, m.hint⟩ := by unfold Msg.norm; rw [if_neg k1, if_neg k2, if_neg k5, if_pos k7]
    have he := h
    rw [msgEnc7 m k7] at he
    split at he
    · rename_i hc
      injection he with he
      have a := fits_bounds hc.1
      have c := fits_bounds hc.2.1
      have d := fits_bounds hc.2.2.1
      have f := fits_bounds hc.2.2.2
      have hr := reads_write [1, 1, 2, 5, 5] [7, m.hint.cls, m.hint.edge + 1, m.hint.far, m.hint.left] [] rfl (by intro p hp; simp at hp; rcases hp with rfl | rfl | rfl | rfl | rfl; exact ⟨by decide, by decide⟩; exact a; exact c; exact d; exact f)
      rw [List.append_nil, he] at hr
      simp only [reads] at hr
      injection hr with hr _
      injection hr with h1 hr
      injection hr with h2 hr
      injection hr with h3 hr
      injection hr with h4 hr
      injection hr with h5 _
      refine ⟨?_, ?_⟩
      · rw [hn]
        unfold msgOf
        simp only
        have h1' : (rnum 1 (b, false)).1 = 7 := h1
        rw [h1', if_neg (by decide), if_neg (by decide), if_neg (by decide), if_pos rfl]
        have h2' : (rnum 1 (rnum 1 (b, false)).2).1 = m.hint.cls := h2
        have h3' : (rnum 2 (rnum 1 (rnum 1 (b, false)).2).2).1 = m.hint.edge + 1 := h3
        have h4' : (rnum 5 (rnum 2 (rnum 1 (rnum 1 (b, false)).2).2).2).1 = m.hint.far := h4
        have h5' : (rnum 5 (rnum 5 (rnum 2 (rnum 1 (rnum 1 (b, false)).2).2).2).2).1 = m.hint.left := h5
        rw [h2', h3', h4', h5', show m.hint.edge + 1 - 1 = m.hint.edge by omega]
      · rw [hn, msgEnc7 _ rfl, if_pos hc, he]
    · cases he
  have hn : m.norm = ⟨m.kind, 0, 0, [], 0, .zero⟩ := by unfold Msg.norm; rw [if_neg k1, if_neg k2, if_neg k5, if_neg k7]
  by_cases k3 : m.kind = 3 ∨ m.kind = 4 ∨ m.kind = 6 ∨ m.kind = 8
  · have he := h
    rw [msgEnc3 m k3] at he
    injection he with he
    have hr := reads_write [1] [m.kind] [] rfl (by intro p hp; simp at hp; subst hp; exact ⟨by simp only; omega, by simp only; omega⟩)
    rw [List.append_nil, he] at hr
    simp only [reads] at hr
    injection hr with hr _
    injection hr with h1 _
    refine ⟨?_, ?_⟩
    · rw [hn]
      unfold msgOf
      simp only
      have h1' : (rnum 1 (b, false)).1 = m.kind := h1
      rw [h1', if_neg k1, if_neg k2, if_neg k5, if_neg k7]
    · rw [hn, msgEnc3 ⟨m.kind, 0, 0, [], 0, .zero⟩ k3, ← he]
  · rw [msgEnc0 m (by omega)] at h
    cases h
/-- a message is read as it was written -/
theorem msgDec_enc {m : Msg} {b : Bytes} (h : msgEnc m = some b) : msgDec b = some m.norm := by
  obtain ⟨h1, h2⟩ := msgOf_enc h
  unfold msgDec
  rw [h1, if_pos h2]

/-- a datagram as it is read -/
def Gram.norm (g : Gram) : Gram :=
  if g.kind = 1 then ⟨g.conn, 1, g.seq, g.ack, 0, g.body⟩
  else if g.kind = 2 then ⟨g.conn, 2, 0, g.ack, 0, []⟩
  else ⟨g.conn, 3, 0, 0, g.code, []⟩

theorem gramDec_wrap {g : Gram} {b l : Bytes} (h : wrap g.kind l = some b) (hr : gramRead g.kind l = some g.norm) : gramDec b = some g.norm := by
  unfold wrap at h
  split at h
  · cases h
  · injection h with h
    rw [gramDec_eq]
    unfold gramDecR
    rw [← h, unwrap_summed (by omega) (by omega) l (by omega)]
    exact hr
/-- a datagram is read as it was written -/
theorem gramDec_enc {g : Gram} {b : Bytes} (h : gramEnc g = some b) : gramDec b = some g.norm := by
  have hg := h
  unfold gramEnc at h
  split at h
  · rename_i hk
    split at h
    · cases h
    · rename_i hsp
      refine gramDec_wrap h ?_
      clear hg h
      have ho : opt (gramIn g) = some (gramIn g).1 := by unfold opt; rw [if_neg hsp]
      rcases hk with k | k | k
      · have hi : gramIn g = ((nums 4 [g.seq, g.ack] (nums 4 [g.conn] ([], false))).1 ++ g.body, (nums 4 [g.seq, g.ack] (nums 4 [g.conn] ([], false))).2) := by unfold gramIn; simp only; rw [if_pos k]
        have hs2 : (nums 4 [g.seq, g.ack] (nums 4 [g.conn] ([], false))).2 = false := by rw [hi] at hsp; simpa using hsp
        have h2 : opt (nums 4 [g.seq, g.ack] (nums 4 [g.conn] ([], false))) = some (nums 4 [g.seq, g.ack] (nums 4 [g.conn] ([], false))).1 := by unfold opt; rw [hs2]; rfl
        rw [opt_nums 4 rfl, opt_nums 4 rfl] at h2
        simp only [opt, Bool.false_eq_true, if_false, Option.bind_some, List.all_cons, List.all_nil, Bool.and_true] at h2
        by_cases f1 : fits 4 g.conn = true
        · rw [if_pos f1] at h2
          simp only [Option.bind_some, Bool.and_eq_true] at h2
          by_cases f2 : fits 4 g.seq = true ∧ fits 4 g.ack = true
          · rw [if_pos f2] at h2
            injection h2 with h2
            have a := fits_bounds f1
            have c := fits_bounds f2.1
            have d := fits_bounds f2.2
            have hr := reads_write [4, 4, 4] [g.conn, g.seq, g.ack] g.body rfl (by intro p hp; simp at hp; rcases hp with rfl | rfl | rfl; exact a; exact c; exact d)
            have hb : writes [4, 4, 4] [g.conn, g.seq, g.ack] ++ g.body = (gramIn g).1 := by rw [hi, ← h2]; simp [writes]
            rw [hb] at hr
            simp only [reads] at hr
            injection hr with hr hs
            injection hr with h1 hr
            injection hr with h3 hr
            injection hr with h4 _
            unfold gramRead
            simp only
            rw [if_pos k]
            have q1 : (rnum 4 ((gramIn g).1, false)).1 = g.conn := h1
            have q2 : (rnum 4 (rnum 4 ((gramIn g).1, false)).2).1 = g.seq := h3
            have q3 : (rnum 4 (rnum 4 (rnum 4 ((gramIn g).1, false)).2).2).1 = g.ack := h4
            have q4 : (rnum 4 (rnum 4 (rnum 4 ((gramIn g).1, false)).2).2).2 = (g.body, false) := hs
            rw [q1, q2, q3, q4, rraw_left]
            simp [Gram.norm, k]
          · rw [if_neg f2] at h2; cases h2
        · rw [if_neg f1] at h2; cases h2
      · have hi : gramIn g = nums 4 [g.ack] (nums 4 [g.conn] ([], false)) := by unfold gramIn; simp only; rw [if_neg (by omega), if_pos k]
        rw [hi] at ho ⊢
        have h2 := ho
        rw [opt_nums 4 rfl, opt_nums 4 rfl] at h2
        simp only [opt, Bool.false_eq_true, if_false, Option.bind_some, List.all_cons, List.all_nil, Bool.and_true] at h2
        by_cases f1 : fits 4 g.conn = true
        · rw [if_pos f1] at h2
          simp only [Option.bind_some] at h2
          by_cases f2 : fits 4 g.ack = true
          · rw [if_pos f2] at h2
            injection h2 with h2
            have a := fits_bounds f1
            have d := fits_bounds f2
            have hr := reads_write [4, 4] [g.conn, g.ack] [] rfl (by intro p hp; simp at hp; rcases hp with rfl | rfl; exact a; exact d)
            have hb : writes [4, 4] [g.conn, g.ack] ++ [] = (nums 4 [g.ack] (nums 4 [g.conn] ([], false))).1 := by rw [← h2]; simp [writes]
            rw [hb] at hr
            generalize (nums 4 [g.ack] (nums 4 [g.conn] ([], false))).1 = L at hr ⊢
            simp only [reads] at hr
            injection hr with hr hs
            injection hr with h1 hr
            injection hr with h3 _
            unfold gramRead
            simp only
            rw [if_neg (by omega), if_pos k]
            have q1 : (rnum 4 (L, false)).1 = g.conn := h1
            have q2 : (rnum 4 (rnum 4 (L, false)).2).1 = g.ack := h3
            have q4 : (rnum 4 (rnum 4 (L, false)).2).2 = ([], false) := hs
            rw [q1, q2, q4]
            simp [Gram.norm, k]
          · rw [if_neg f2] at h2; cases h2
        · rw [if_neg f1] at h2; cases h2
      · have hi : gramIn g = nums 1 [g.code] (nums 4 [g.conn] ([], false)) := by unfold gramIn; simp only; rw [if_neg (by omega), if_neg (by omega)]
        rw [hi] at ho ⊢
        have h2 := ho
        rw [opt_nums 1 rfl, opt_nums 4 rfl] at h2
        simp only [opt, Bool.false_eq_true, if_false, Option.bind_some, List.all_cons, List.all_nil, Bool.and_true] at h2
        by_cases f1 : fits 4 g.conn = true
        · rw [if_pos f1] at h2
          simp only [Option.bind_some] at h2
          by_cases f2 : fits 1 g.code = true
          · rw [if_pos f2] at h2
            injection h2 with h2
            have a := fits_bounds f1
            have d := fits_bounds f2
            have hr := reads_write [4, 1] [g.conn, g.code] [] rfl (by intro p hp; simp at hp; rcases hp with rfl | rfl; exact a; exact d)
            have hb : writes [4, 1] [g.conn, g.code] ++ [] = (nums 1 [g.code] (nums 4 [g.conn] ([], false))).1 := by rw [← h2]; simp [writes]
            rw [hb] at hr
            generalize (nums 1 [g.code] (nums 4 [g.conn] ([], false))).1 = L at hr ⊢
            simp only [reads] at hr
            injection hr with hr hs
            injection hr with h1 hr
            injection hr with h3 _
            unfold gramRead
            simp only
            rw [if_neg (by omega), if_neg (by omega), if_pos k]
            have q1 : (rnum 4 (L, false)).1 = g.conn := h1
            have q2 : (rnum 1 (rnum 4 (L, false)).2).1 = g.code := h3
            have q4 : (rnum 1 (rnum 4 (L, false)).2).2 = ([], false) := hs
            rw [q1, q2, q4]
            simp [Gram.norm, k]
          · rw [if_neg f2] at h2; cases h2
        · rw [if_neg f1] at h2; cases h2
  · cases h

/-- which datagrams have bytes -/
theorem gramEnc_data {conn seq ack code : Int} {body : Bytes} (h1 : 0 ≤ conn) (h2 : conn < 4294967296) (h3 : 0 ≤ seq) (h4 : seq < 4294967296) (h5 : 0 ≤ ack) (h6 : ack < 4294967296) (h7 : body.length ≤ 1988) : ∃ b, gramEnc ⟨conn, 1, seq, ack, code, body⟩ = some b := by
  have e : gramIn ⟨conn, 1, seq, ack, code, body⟩ = (be conn 4 ++ be seq 4 ++ be ack 4 ++ body, false) := by
    unfold gramIn
    simp only
    rw [if_pos trivial, nums4 [conn] [] (by simpa using ⟨h1, h2⟩), nums4 [seq, ack] _ (by intro x hx; simp at hx; rcases hx with rfl | rfl; exact ⟨h3, h4⟩; exact ⟨h5, h6⟩)]
    simp
  unfold gramEnc
  rw [e]
  simp only [true_or, if_true, Bool.false_eq_true, if_false]
  unfold wrap
  rw [if_neg (by simp [be_length]; omega)]
  exact ⟨_, rfl⟩
theorem gramEnc_reset {conn code : Int} (h1 : 0 ≤ conn) (h2 : conn < 4294967296) (h3 : 0 ≤ code) (h4 : code < 256) : ∃ b, gramEnc ⟨conn, 3, 0, 0, code, []⟩ = some b := by
  have e : gramIn ⟨conn, 3, 0, 0, code, []⟩ = (be conn 4 ++ be code 1, false) := by
    unfold gramIn
    simp only
    rw [if_neg (by decide), if_neg (by decide), nums4 [conn] [] (by simpa using ⟨h1, h2⟩), nums1 [code] _ (by simpa using ⟨h3, h4⟩)]
    simp
  unfold gramEnc
  rw [e]
  simp only [or_true, if_true, Bool.false_eq_true, if_false]
  unfold wrap
  rw [if_neg (by simp [be_length])]
  exact ⟨_, rfl⟩
end Mp
namespace Mp
/-- what a datagram's frame has in it, written number by number -/
def gramInR (g : Gram) : Bytes × Bool :=
  let s := nums 4 [g.conn] ([], false)
  if g.kind = 1 then let t := nums 4 [g.ack] (nums 4 [g.seq] s); (t.1 ++ g.body, t.2)
  else if g.kind = 2 then nums 4 [g.ack] s
  else nums 1 [g.code] s
theorem opt_some {s : Bytes × Bool} {b : Bytes} (h : opt s = some b) : s = (b, false) := by
  obtain ⟨l, sp⟩ := s
  cases sp
  · simp [opt] at h; rw [h]
  · simp [opt] at h
theorem opt_none {s : Bytes × Bool} (h : opt s = none) : s.2 = true := by
  obtain ⟨l, sp⟩ := s
  cases sp
  · simp [opt] at h
  · rfl
theorem opt_two (size : Int) (hs : okSize size = true) (x y : Int) (s : Bytes × Bool) : opt (nums size [y] (nums size [x] s)) = opt (nums size [x, y] s) := by
  rw [opt_nums size hs, opt_nums size hs, opt_nums size hs]
  cases opt s with
  | none => rfl
  | some b =>
    simp only [Option.bind_some, List.all_cons, List.all_nil, Bool.and_true, List.flatMap_cons, List.flatMap_nil, List.append_nil, Bool.and_eq_true]
    by_cases h1 : fits size x = true
    · by_cases h2 : fits size y = true
      · simp [h1, h2]
      · simp [h1, h2]
    · simp [h1]
theorem gramEnc_R (g : Gram) (hk : g.kind = 1 ∨ g.kind = 2 ∨ g.kind = 3) : gramEnc g = if (gramInR g).2 then none else wrap g.kind (gramInR g).1 := by
  unfold gramEnc
  rw [if_pos hk]
  have h : (gramIn g).2 = (gramInR g).2 ∧ ((gramIn g).2 = false → gramIn g = gramInR g) := by
    by_cases k1 : g.kind = 1
    · have ho := opt_two 4 rfl g.seq g.ack (nums 4 [g.conn] ([], false))
      have e1 : gramIn g = ((nums 4 [g.seq, g.ack] (nums 4 [g.conn] ([], false))).1 ++ g.body, (nums 4 [g.seq, g.ack] (nums 4 [g.conn] ([], false))).2) := by unfold gramIn; simp only; rw [if_pos k1]
      have e2 : gramInR g = ((nums 4 [g.ack] (nums 4 [g.seq] (nums 4 [g.conn] ([], false)))).1 ++ g.body, (nums 4 [g.ack] (nums 4 [g.seq] (nums 4 [g.conn] ([], false)))).2) := by unfold gramInR; simp only; rw [if_pos k1]
      rw [e1, e2]
      generalize nums 4 [g.ack] (nums 4 [g.seq] (nums 4 [g.conn] ([], false))) = a at ho ⊢
      generalize nums 4 [g.seq, g.ack] (nums 4 [g.conn] ([], false)) = b at ho ⊢
      cases hb : opt b with
      | none =>
        rw [hb] at ho
        simp [opt_none ho, opt_none hb]
      | some l =>
        rw [hb] at ho
        rw [opt_some ho, opt_some hb]
        simp
    · have e : gramIn g = gramInR g := by unfold gramIn gramInR; simp only; rw [if_neg k1, if_neg k1]
      rw [e]; exact ⟨rfl, fun _ => rfl⟩
  rw [h.1]
  cases hs : (gramInR g).2 with
  | true => rfl
  | false => rw [h.2 (h.1.trans hs)]
end Mp
namespace Mp
/-- numbers are written one by one, whether one before did not fit or did -/
def puts (size : Int) (l : List Int) (s : Bytes × Bool) : Bytes × Bool := l.foldl (fun s x => nums size [x] s) s
theorem opt_puts (size : Int) (hs : okSize size = true) : ∀ (l : List Int) (s : Bytes × Bool), opt (puts size l s) = opt (nums size l s)
  | [], s => by
    rw [opt_nums size hs]
    cases h : opt s <;> simp [puts, h]
  | x :: l, s => by
    have ih := opt_puts size hs l (nums size [x] s)
    rw [show puts size (x :: l) s = puts size l (nums size [x] s) from rfl, ih, opt_nums size hs, opt_nums size hs, opt_nums size hs]
    cases opt s with
    | none => rfl
    | some b =>
      simp only [Option.bind_some, List.all_cons, List.all_nil, Bool.and_true, List.flatMap_cons, List.flatMap_nil, List.append_nil]
      by_cases h1 : fits size x = true
      · simp [h1]
      · simp [h1]
theorem puts_length (size : Int) : ∀ (l : List Int) (s : Bytes × Bool), (puts size l s).1.length ≤ s.1.length + l.length * 7
  | [], s => by simp [puts]
  | x :: l, s => by
    have h1 := puts_length size l (nums size [x] s)
    have h2 := nums_length size [x] s
    rw [show puts size (x :: l) s = puts size l (nums size [x] s) from rfl]
    simp only [List.length_cons, List.length_nil] at h2 ⊢
    omega
theorem puts_snoc (size : Int) (l : List Int) (x : Int) (s : Bytes × Bool) : puts size (l ++ [x]) s = nums size [x] (puts size l s) := by simp [puts]
theorem msgEncR1 (m : Msg) (h : m.kind = 1) : msgEnc m = opt (nums 2 [m.dest] (nums 2 [m.pos] (nums 1 [1] ([], false)))) := by
  rw [msgEnc_opt, msgW1 h, opt_two 2 rfl]; rfl
theorem msgEncR2 (m : Msg) (h : m.kind = 2) : msgEnc m = opt (nums 2 [m.pos] (nums 1 [2] ([], false))) := by rw [msgEnc_opt, msgW2 h]; rfl
theorem msgEncR9 (m : Msg) (h : m.kind = 9) : msgEnc m = opt (nums 2 [m.pos] (nums 1 [9] ([], false))) := by rw [msgEnc_opt, msgW9 h]; rfl
theorem msgEncR3 (m : Msg) (h : m.kind = 3 ∨ m.kind = 4 ∨ m.kind = 6 ∨ m.kind = 8) : msgEnc m = opt (nums 1 [m.kind] ([], false)) := by rw [msgEnc_opt, msgW3 h]; rfl
theorem msgEncR5 (m : Msg) (h : m.kind = 5) (hl : m.edges.length ≤ 512) : msgEnc m = opt (puts 2 m.edges (nums 2 [(m.edges.length : Int)] (nums 5 [m.weight] (nums 1 [5] ([], false))))) := by
  rw [msgEnc_opt, msgW5 h, opt_puts 2 rfl, show decide (m.edges.length ≤ 512) = true by simpa using hl]; rfl
theorem msgEncR7 (m : Msg) (h : m.kind = 7) : msgEnc m = opt (nums 5 [m.hint.left] (nums 5 [m.hint.far] (nums 2 [m.hint.edge + 1] (nums 1 [m.hint.cls] (nums 1 [7] ([], false)))))) := by
  rw [msgEnc_opt, msgW7 h, opt_two 5 rfl]; rfl
theorem msgEncR7x (m : Msg) (h : m.kind = 7) (he : m.hint.edge < -1 ∨ 65534 < m.hint.edge) : msgEnc m = none := by
  rw [msgEnc7 m h, if_neg]
  rintro ⟨_, h2, _⟩
  have := fits_bounds h2
  rw [show (256 : Int) ^ Int.toNat 2 = 65536 from rfl] at this
  omega
theorem msgEncR5x (m : Msg) (h : m.kind = 5) (hl : 512 < m.edges.length) : msgEnc m = none := by
  rw [msgEnc5 m h, if_neg]
  omega
end Mp
