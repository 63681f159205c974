/- Bytes as the document has them, as plain functions: numbers, the sum, frames. No program in sight. -/
namespace Mp

abbrev Bytes := List UInt8

structure Hint where
  cls : Int
  edge : Int
  far : Int
  left : Int

structure Msg where
  kind : Int
  pos : Int
  dest : Int
  edges : List Int
  weight : Int
  hint : Hint

structure Gram where
  conn : Int
  kind : Int
  seq : Int
  ack : Int
  code : Int
  body : Bytes

/-- the lowest byte of x / 256^k -/
def byteAt (x : Int) (k : Nat) : UInt8 := UInt8.ofNat (x / 256 ^ k % 256).toNat
/-- k bytes of x, the high one first -/
def be (x : Int) : Nat → Bytes
  | 0 => []
  | k + 1 => byteAt x k :: be x k
theorem be_length (x : Int) : ∀ k, (be x k).length = k
  | 0 => rfl
  | k + 1 => by simp [be, be_length x k]

/-- the number of bytes, the high one first -/
def num (l : Bytes) : Int := l.foldl (fun n b => n * 256 + b.toNat) 0

def okSize (size : Int) : Bool := decide (1 ≤ size) && decide (size ≤ 7)
def fits (size x : Int) : Bool := decide (0 ≤ x) && decide (x < 256 ^ size.toNat)

/-- numbers are written, till one does not fit -/
def wr (size : Int) : List Int → Bytes × Bool → Bytes × Bool
  | [], s => s
  | x :: l, s => if fits size x then wr size l (s.1 ++ be x size.toNat, s.2) else (s.1, true)
def nums (size : Int) (l : List Int) (s : Bytes × Bool) : Bytes × Bool := if okSize size then wr size l s else (s.1, true)

theorem wr_length (size : Int) : ∀ (l : List Int) (s : Bytes × Bool), (wr size l s).1.length ≤ s.1.length + l.length * size.toNat
  | [], s => by simp [wr]
  | x :: l, s => by
    unfold wr
    split
    · have := wr_length size l (s.1 ++ be x size.toNat, s.2)
      simp only [List.length_append, be_length, List.length_cons] at this ⊢
      rw [Nat.add_mul]
      omega
    · simp
theorem nums_length (size : Int) (l : List Int) (s : Bytes × Bool) : (nums size l s).1.length ≤ s.1.length + l.length * 7 := by
  unfold nums
  split
  · rename_i h
    have h1 := wr_length size l s
    simp [okSize] at h
    have : l.length * size.toNat ≤ l.length * 7 := Nat.mul_le_mul_left _ (by omega)
    omega
  · simp

theorem pow8 (n : Nat) : (2 : Int) ^ (8 * n) = 256 ^ n := by
  rw [Int.pow_mul]; rfl
theorem fits_iff {size x : Int} (h1 : 1 ≤ size) (h0 : 0 ≤ x) : fits size x = false ↔ 0 < x / 2 ^ (8 * size).toNat := by
  have e : (8 * size).toNat = 8 * size.toNat := by omega
  have hp : (0 : Int) < 256 ^ size.toNat := Int.pow_pos (by decide)
  rw [e, pow8]
  unfold fits
  rw [show decide (0 ≤ x) = true from decide_eq_true h0, Bool.true_and, decide_eq_false_iff_not]
  constructor
  · intro h
    exact Int.lt_of_lt_of_le (by decide) ((Int.le_ediv_iff_mul_le hp).2 (by omega : (1 : Int) * 256 ^ size.toNat ≤ x))
  · intro h hlt
    have := Int.ediv_eq_zero_of_lt h0 hlt
    omega
theorem byteAt_wrap {x : Int} (k : Nat) : ((byteAt x k).toNat : Int) = x / 256 ^ k % 256 := by
  have h0 := Int.emod_nonneg (x / 256 ^ k) (show (256 : Int) ≠ 0 by decide)
  have h1 := Int.emod_lt_of_pos (x / 256 ^ k) (show (0 : Int) < 256 by decide)
  unfold byteAt
  rw [UInt8.toNat_ofNat']
  omega

/-- the next n bytes are read: what they are, what is left, and whether it is spoilt -/
def rraw (n : Int) (s : Bytes × Bool) : Bytes × (Bytes × Bool) :=
  if s.2 then ([], s) else if n < 0 ∨ (s.1.length : Int) < n then ([], (s.1, true)) else (s.1.take n.toNat, (s.1.drop n.toNat, false))
def rnum (size : Int) (s : Bytes × Bool) : Int × (Bytes × Bool) := (num (rraw size s).1, (rraw size s).2)
def rleft (s : Bytes × Bool) : Int := if s.2 then 0 else s.1.length

theorem pow256_le {n m : Nat} (h : n ≤ m) : (256 : Int) ^ n ≤ 256 ^ m := by
  have h1 : 256 ^ n ≤ 256 ^ m := Nat.pow_le_pow_right (by decide) h
  have e : ∀ k : Nat, (256 : Int) ^ k = ((256 ^ k : Nat) : Int) := fun k => by simp
  rw [e n, e m]
  omega
theorem num_append (l : Bytes) (b : UInt8) : num (l ++ [b]) = num l * 256 + b.toNat := by simp [num]
theorem num_from (l : Bytes) : ∀ n : Int, 0 ≤ n → 0 ≤ l.foldl (fun (n : Int) (b : UInt8) => n * 256 + b.toNat) n ∧ l.foldl (fun (n : Int) (b : UInt8) => n * 256 + b.toNat) n < (n + 1) * 256 ^ l.length := by
  induction l with
  | nil => intro n h; simp; omega
  | cons b l ih =>
    intro n h
    have hb := b.toNat_lt
    obtain ⟨h1, h2⟩ := ih (n * 256 + b.toNat) (by omega)
    refine ⟨h1, ?_⟩
    rw [List.foldl_cons, List.length_cons, Int.pow_succ]
    refine Int.lt_of_lt_of_le h2 ?_
    rw [Int.mul_comm (256 ^ l.length) 256, ← Int.mul_assoc]
    exact Int.mul_le_mul_of_nonneg_right (by omega) (Int.le_of_lt (Int.pow_pos (by decide)))
theorem num_bounds (l : Bytes) : 0 ≤ num l ∧ num l < 256 ^ l.length := by
  have := num_from l 0 (by decide)
  simpa [num] using this

def crcBit (c : UInt32) : UInt32 := if c &&& 1 = 0 then c >>> 1 else (c >>> 1) ^^^ 2197175160
def crcBits : Nat → UInt32 → UInt32
  | 0, c => c
  | k + 1, c => crcBits k (crcBit c)
def crcByte (c : UInt32) (b : UInt8) : UInt32 := crcBits 8 (c ^^^ b.toUInt32)
def crcFrom (c : UInt32) (l : Bytes) : UInt32 := l.foldl crcByte c
def crc0 : UInt32 := 4294967295
def crc (l : Bytes) : UInt32 := ~~~ crcFrom crc0 l

theorem be_one (x : Int) : be x 1 = [UInt8.ofNat (x % 256).toNat] := by simp [be, byteAt]
/-- the bytes ahead of a frame's sum -/
def headed (kind : Int) (body : Bytes) : Bytes := be 77 1 ++ be 3 1 ++ be kind 1 ++ be body.length 2 ++ body
def summed (b : Bytes) : Bytes := b ++ be ((crc b).toNat : Int) 4
/-- a frame; none: it may not be -/
def wrap (kind : Int) (body : Bytes) : Option Bytes :=
  if kind < 0 ∨ 255 < kind ∨ 2000 < body.length then none else some (summed (headed kind body))

theorem fits_of {size x : Int} (h0 : 0 ≤ x) (h1 : x < 256 ^ size.toNat) : fits size x = true := by simp [fits, h0, h1]
theorem fits1 {x : Int} (h0 : 0 ≤ x) (h1 : x < 256) : fits 1 x = true := fits_of h0 (by rw [show (256 : Int) ^ Int.toNat 1 = 256 from rfl]; exact h1)
theorem fits2 {x : Int} (h0 : 0 ≤ x) (h1 : x < 65536) : fits 2 x = true := fits_of h0 (by rw [show (256 : Int) ^ Int.toNat 2 = 65536 from rfl]; exact h1)
theorem fits4 {x : Int} (h0 : 0 ≤ x) (h1 : x < 4294967296) : fits 4 x = true := fits_of h0 (by rw [show (256 : Int) ^ Int.toNat 4 = 4294967296 from rfl]; exact h1)
theorem fits5 {x : Int} (h0 : 0 ≤ x) (h1 : x < 1099511627776) : fits 5 x = true := fits_of h0 (by rw [show (256 : Int) ^ Int.toNat 5 = 1099511627776 from rfl]; exact h1)
theorem wr_all (size : Int) : ∀ (l : List Int) (b : Bytes) (sp : Bool), (∀ x ∈ l, fits size x = true) → wr size l (b, sp) = (b ++ l.flatMap (fun x => be x size.toNat), sp)
  | [], b, sp, _ => by simp [wr]
  | x :: l, b, sp, h => by
    rw [wr, if_pos (h x (by simp)), wr_all size l _ _ (fun y hy => h y (by simp [hy]))]
    simp
theorem nums_all {size : Int} (hs : okSize size = true) (l : List Int) (b : Bytes) (sp : Bool) (h : ∀ x ∈ l, fits size x = true) : nums size l (b, sp) = (b ++ l.flatMap (fun x => be x size.toNat), sp) := by
  rw [nums, if_pos hs, wr_all size l b sp h]
theorem nums_head1 {kind : Int} (h0 : 0 ≤ kind) (h1 : kind ≤ 255) : nums 1 [77, 3, kind] ([], false) = (be 77 1 ++ be 3 1 ++ be kind 1, false) := by
  rw [nums_all rfl _ _ _ (by intro x hx; simp at hx; rcases hx with rfl | rfl | rfl <;> exact fits1 (by omega) (by omega))]; simp
theorem nums_head2 {n : Nat} (h : n ≤ 2000) (b : Bytes) : nums 2 [(n : Int)] (b, false) = (b ++ be n 2, false) := by
  rw [nums_all rfl _ _ _ (by intro x hx; simp at hx; subst hx; exact fits2 (by omega) (by omega))]; simp
theorem nums_sum (b : Bytes) : nums 4 [((crc b).toNat : Int)] (b, false) = (summed b, false) := by
  rw [nums_all rfl _ _ _ (by intro x hx; simp at hx; subst hx; have := (crc b).toNat_lt; exact fits4 (by omega) (by omega))]; simp [summed]
theorem headed_length (kind : Int) (body : Bytes) : (headed kind body).length = body.length + 5 := by
  simp [headed, be_length]; omega
theorem summed_length (b : Bytes) : (summed b).length = b.length + 4 := by simp [summed, be_length]

/-- what a datagram's frame has in it, and whether it is spoilt -/
def gramIn (g : Gram) : Bytes × Bool :=
  let s := nums 4 [g.conn] ([], false)
  if g.kind = 1 then let t := nums 4 [g.seq, g.ack] s; (t.1 ++ g.body, t.2)
  else if g.kind = 2 then nums 4 [g.ack] s
  else nums 1 [g.code] s
/-- a datagram's bytes; none: it has none -/
def gramEnc (g : Gram) : Option Bytes :=
  if g.kind = 1 ∨ g.kind = 2 ∨ g.kind = 3 then (if (gramIn g).2 then none else wrap g.kind (gramIn g).1) else none

/-- what a message writes behind s, and whether there is such a kind -/
def msgW (m : Msg) (s : Bytes × Bool) : (Bytes × Bool) × Bool :=
  let t := nums 1 [m.kind] s
  if m.kind = 1 then (nums 2 [m.pos, m.dest] t, true)
  else if m.kind = 2 ∨ m.kind = 9 then (nums 2 [m.pos] t, true)
  else if m.kind = 5 then (nums 2 m.edges (nums 2 [(m.edges.length : Int)] (nums 5 [m.weight] t)), decide (m.edges.length ≤ 512))
  else if m.kind = 7 then (nums 5 [m.hint.far, m.hint.left] (nums 2 [m.hint.edge + 1] (nums 1 [m.hint.cls] t)), true)
  else (t, decide (m.kind = 3 ∨ m.kind = 4 ∨ m.kind = 6 ∨ m.kind = 8))
/-- a message's bytes; none: it has none -/
def msgEnc (m : Msg) : Option Bytes :=
  let t := msgW m ([], false)
  if t.2 && !t.1.2 then some t.1.1 else none

end Mp
