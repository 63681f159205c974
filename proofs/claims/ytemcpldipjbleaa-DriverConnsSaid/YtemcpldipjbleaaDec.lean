/- Frames and datagrams taken apart, as plain functions. No program in sight. -/
import Derived.Test.YtemcpldipjbleaaModel
namespace Mp

theorem rraw_ok {k : Nat} {l : Bytes} (h : k ≤ l.length) : rraw (k : Int) (l, false) = (l.take k, (l.drop k, false)) := by
  unfold rraw
  rw [if_neg (by simp), if_neg (by simp only; omega)]
  simp
theorem rnum_ok {k : Nat} {l : Bytes} (h : k ≤ l.length) : rnum (k : Int) (l, false) = (num (l.take k), (l.drop k, false)) := by
  unfold rnum
  rw [rraw_ok h]

/-- what is in a frame: its kind and its body; none: it is none -/
def unwrap (b : Bytes) : Option (Int × Bytes) :=
  if b.length < 9 ∨ b.head? ≠ some 77 then none
  else
    let n := (num ((b.drop 3).take 2)).toNat
    if b.length ≠ n + 9 then none
    else if num ((b.drop (5 + n)).take 4) ≠ ((crc (b.take (5 + n))).toNat : Int) then none
    else if num ((b.drop 1).take 1) ≠ 3 then none
    else if 2000 < n then none
    else some (num ((b.drop 2).take 1), (b.drop 5).take n)

theorem num_take_lt (l : Bytes) (k : Nat) : 0 ≤ num (l.take k) ∧ num (l.take k) < 256 ^ k := by
  have h := num_bounds (l.take k)
  refine ⟨h.1, Int.lt_of_lt_of_le h.2 (pow256_le ?_)⟩
  rw [List.length_take]; omega

/-- what a datagram of a kind has in its frame's body -/
def gramOf (kind : Int) (body : Bytes) : Gram :=
  let c := rnum 4 (body, false)
  if kind = 1 then
    let s := rnum 4 c.2
    let a := rnum 4 s.2
    ⟨c.1, kind, s.1, a.1, 0, (rraw (rleft a.2) a.2).1⟩
  else if kind = 2 then ⟨c.1, kind, 0, (rnum 4 c.2).1, 0, []⟩
  else if kind = 3 then ⟨c.1, kind, 0, 0, (rnum 1 c.2).1, []⟩
  else ⟨c.1, kind, 0, 0, 0, []⟩
/-- the datagram of bytes, read as the program reads it -/
def gramDec (b : Bytes) : Option Gram :=
  match unwrap b with
  | none => none
  | some (kind, body) => if gramEnc (gramOf kind body) = some b then some (gramOf kind body) else none

theorem rraw_len (n : Int) (s : Bytes × Bool) : (rraw n s).2.1.length ≤ s.1.length ∧ (rraw n s).1.length ≤ s.1.length := by
  unfold rraw
  split
  · simp
  · split
    · simp
    · simp; omega
theorem rnum_len (n : Int) (s : Bytes × Bool) : (rnum n s).2.1.length ≤ s.1.length := (rraw_len n s).1
theorem unwrap_len {b : Bytes} {k : Int} {l : Bytes} (h : unwrap b = some (k, l)) : l.length ≤ b.length := by
  unfold unwrap at h
  split at h
  · cases h
  · simp only at h
    split at h
    · cases h
    · split at h
      · cases h
      · split at h
        · cases h
        · split at h
          · cases h
          · cases h
            rw [List.length_take, List.length_drop]
            omega

end Mp
