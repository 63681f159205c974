/- Words for memory: blocks that are known whole, what keeps them, owned slices with an offset, and the law of append over them. No program in sight. -/
import Derived.WalkKit
import Derived.WalkSpells
import Derived.WalkLawsBesides
import Derived.Maps.AppendAt
import Derived.Deep.AppendLies
import Derived.Deep.Draws
import Derived.RegionTactic
import Derived.OwnWalk
import Derived.Lib.Hide
namespace Go.Proofs.Ytemcpldipjbleaa
open Go.RowKit

/-- block g is just the cells cs of element type t, none frozen -/
def Blk (w : World) (g : Nat) (t : TypeId) (cs : Array Value) : Prop := w.heap[g]? = some (.cells cs t (0, 0))

section
variable {w w' : World} {g : Nat} {t : TypeId} {cs : Array Value}
theorem heap_lt {o : Obj} (h : w.heap[g]? = some o) : g < w.heap.size := by
  rcases Nat.lt_or_ge g w.heap.size with hlt | hge
  · exact hlt
  · rw [Array.getElem?_eq_none hge] at h; cases h
theorem Blk.lt (h : Blk w g t cs) : g < w.heap.size := heap_lt h
theorem Blk.cell (h : Blk w g t cs) (i : Nat) : w.cell? ⟨g, i, none⟩ = cs[i]? := cell_of_row w g i cs t (0, 0) h
theorem Blk.frozen (h : Blk w g t cs) (i : Nat) : w.frozen? ⟨g, i, none⟩ = false := by
  unfold Blk at h
  simp [World.frozen?, h]
theorem Blk.new (w : World) (t : TypeId) (cs : Array Value) : Blk (w.alloc (.cells cs t)) w.heap.size t cs := heap_alloc_new w _
theorem Blk.drew (h : Blk w g t cs) : Blk w.drew g t cs := h
theorem Blk.drewN (h : Blk w g t cs) (n : Nat) : Blk (w.drewN n) g t cs := h
theorem Blk.alloc (h : Blk w g t cs) (o : Obj) : Blk (w.alloc o) g t cs := (Below.heap_alloc w o g h.lt).trans h
theorem Blk.set_ (h : Blk w g t cs) (i : Nat) (u : Value) : Blk (w.setCell ⟨g, i, none⟩ u) g t (cs.setIfInBounds i u) := by
  unfold Blk at h ⊢
  simp [World.setCell, Array.getElem?_modify, h]
theorem Blk.far (h : Blk w g t cs) {p : Addr} (hp : g ≠ p.block) (u : Value) : Blk (w.setCell p u) g t cs := (Below.heap_setCell w p u g hp).trans h
theorem Blk.below {B : Nat} (h : Blk w g t cs) (hb : Below B w w') (hg : g < B) : Blk w' g t cs := (hb.block g hg).trans h
theorem Blk.newAt (w : World) (t : TypeId) (cs : Array Value) (b : Nat) (hb : b = w.heap.size) : Blk (w.alloc (.cells cs t)) b t cs := by subst hb; exact heap_alloc_new w _
theorem Blk.ne_ {g' : Nat} {t' : TypeId} {cs' : Array Value} (h : Blk w g t cs) (h' : Blk w g' t' cs') (hne : t ≠ t') : g ≠ g' := by
  rintro rfl
  unfold Blk at h h'
  rw [h] at h'
  injection h' with h'
  injection h' with _ ht
  exact hne ht
end

/-- only the blocks F, and new ones, have turned -/
structure Upd (F : List Nat) (w w' : World) : Prop where
  os : w'.os = w.os
  tape : w'.tape = w.tape
  output : w'.output = w.output
  size : w.heap.size ≤ w'.heap.size
  block : ∀ k, k < w.heap.size → k ∉ F → w'.heap[k]? = w.heap[k]?

section
variable {F G : List Nat} {a w w' w1 w2 : World}
theorem Upd.refl (F : List Nat) (w : World) : Upd F w w := ⟨rfl, rfl, rfl, Nat.le_refl _, fun _ _ _ => rfl⟩
theorem Upd.mono (h : Upd F w w') (hs : ∀ k, k ∈ F → k < w.heap.size → k ∈ G) : Upd G w w' :=
  ⟨h.os, h.tape, h.output, h.size, fun k hk hn => h.block k hk fun hf => hn (hs k hf hk)⟩
/-- two steps; the second may turn new blocks, too -/
theorem Upd.trans (h : Upd F a w) (k : Upd G w w') (hs : ∀ k, k ∈ G → k ∈ F ∨ a.heap.size ≤ k) : Upd F a w' :=
  ⟨k.os.trans h.os, k.tape.trans h.tape, k.output.trans h.output, Nat.le_trans h.size k.size, fun i hi hn =>
    (k.block i (Nat.lt_of_lt_of_le hi h.size) (fun hg => (hs i hg).elim hn (fun hle => by omega))).trans (h.block i hi hn)⟩
theorem Upd.drew (h : Upd F a w) : Upd F a w.drew := ⟨h.os, h.tape, h.output, h.size, h.block⟩
theorem Upd.drewN (h : Upd F a w) (n : Nat) : Upd F a (w.drewN n) := ⟨h.os, h.tape, h.output, h.size, h.block⟩
theorem Upd.alloc (h : Upd F a w) (o : Obj) : Upd F a (w.alloc o) :=
  ⟨h.os, h.tape, h.output, Nat.le_trans h.size (by simp), fun i hi hn => (Below.heap_alloc w o i (Nat.lt_of_lt_of_le hi h.size)).trans (h.block i hi hn)⟩
theorem Upd.setCell (h : Upd F a w) {p : Addr} (hp : p.block ∈ F ∨ a.heap.size ≤ p.block) (u : Value) : Upd F a (w.setCell p u) :=
  ⟨h.os, h.tape, h.output, by simpa [World.setCell] using h.size, fun i hi hn => (Below.heap_setCell w p u i (by
    rintro rfl
    rcases hp with hp | hp
    · exact hn hp
    · omega)).trans (h.block i hi hn)⟩
theorem Upd.below (h : Upd F a w) (hb : Below w.heap.size w w') : Upd F a w' :=
  ⟨hb.os.trans h.os, hb.tape.trans h.tape, hb.output.trans h.output, Nat.le_trans h.size hb.size, fun i hi hn => (hb.block i (Nat.lt_of_lt_of_le hi h.size)).trans (h.block i hi hn)⟩
theorem Upd.of_below (h : Below w.heap.size w w') (F : List Nat) : Upd F w w' := (Upd.refl F w).below h
theorem Upd.to_below (h : Upd [] w w') : Below w.heap.size w w' := ⟨h.os, h.tape, h.output, h.size, fun k hk => h.block k hk (by simp)⟩
theorem Upd.keep (h : Upd F w w') {g : Nat} {o : Obj} (hg : w.heap[g]? = some o) (hn : g ∉ F) : w'.heap[g]? = some o := (h.block g (heap_lt hg) hn).trans hg
theorem Upd.blk (h : Upd F w w') {g : Nat} {t : TypeId} {cs : Array Value} (hg : Blk w g t cs) (hn : g ∉ F) : Blk w' g t cs := h.keep hg hn
end

/-- every row of elements of type T that was there is there still -/
def Keep (T : TypeId) (w w' : World) : Prop := ∀ (b : Nat) (cs : Array Value) (fz : Nat × Nat), w.heap[b]? = some (.cells cs T fz) → w'.heap[b]? = some (.cells cs T fz)
section
variable {T : TypeId} {a w w' : World} {F : List Nat}
theorem Keep.refl (T : TypeId) (w : World) : Keep T w w := fun _ _ _ h => h
theorem Keep.trans (h : Keep T a w) (k : Keep T w w') : Keep T a w' := fun b cs fz hb => k b cs fz (h b cs fz hb)
theorem Keep.of_below (h : Below w.heap.size w w') : Keep T w w' := fun b _ _ hb => (h.block b (heap_lt hb)).trans hb
theorem Keep.of_upd (h : Upd F w w') (hF : ∀ k, k ∈ F → ∀ (cs : Array Value) (fz : Nat × Nat), w.heap[k]? ≠ some (.cells cs T fz)) : Keep T w w' :=
  fun b cs fz hb => h.keep hb fun hf => hF b hf cs fz hb
theorem Keep.drew (h : Keep T a w) : Keep T a w.drew := h
theorem Keep.drewN (h : Keep T a w) (n : Nat) : Keep T a (w.drewN n) := h
theorem Keep.alloc (h : Keep T a w) (o : Obj) : Keep T a (w.alloc o) := fun b cs fz hb => (Below.heap_alloc w o b (heap_lt (h b cs fz hb))).trans (h b cs fz hb)
theorem Keep.setCell (h : Keep T a w) {g : Nat} {t : TypeId} {cs : Array Value} (hg : Blk w g t cs) (hne : t ≠ T) (i : Nat) (u : Value) : Keep T a (w.setCell ⟨g, i, none⟩ u) :=
  fun b cs' fz hb => (Below.heap_setCell w ⟨g, i, none⟩ u b (by
    rintro rfl
    have := h b cs' fz hb
    unfold Blk at hg
    rw [hg] at this
    injection this with this
    injection this with _ ht
    exact hne ht)).trans (h b cs' fz hb)
theorem blk_not {g : Nat} {t T : TypeId} {cs : Array Value} (h : Blk w g t cs) (hne : t ≠ T) : ∀ (cs' : Array Value) (fz : Nat × Nat), w.heap[g]? ≠ some (.cells cs' T fz) := by
  intro cs' fz e
  unfold Blk at h
  rw [h] at e
  injection e with e
  injection e with _ ht
  exact hne ht
end

/-- what stands from the address on, in a row of elements of type T: the cells xs; nothing is said where there are none -/
def Seg (w : World) (T : TypeId) (A : Option Addr) (xs : List Value) : Prop :=
  0 < xs.length → ∃ b o cs fz, A = some ⟨b, o, none⟩ ∧ w.heap[b]? = some (.cells cs T fz) ∧ ∀ j u, xs[j]? = some u → cs[o + j]? = some u
section
variable {T : TypeId} {w w' : World} {A : Option Addr} {xs ys : List Value}
theorem Seg.nil (w : World) (T : TypeId) (A : Option Addr) : Seg w T A [] := fun h => absurd h (by simp)
theorem Seg.keep (h : Seg w T A xs) (hk : Keep T w w') : Seg w' T A xs := fun hn => by
  obtain ⟨b, o, cs, fz, e, hb, hc⟩ := h hn
  exact ⟨b, o, cs, fz, e, hk b cs fz hb, hc⟩
theorem Seg.upd {F : List Nat} (h : Seg w T A xs) (hu : Upd F w w') (hF : ∀ a, A = some a → 0 < xs.length → a.block ∉ F) : Seg w' T A xs := fun hn => by
  obtain ⟨b, o, cs, fz, e, hb, hc⟩ := h hn
  exact ⟨b, o, cs, fz, e, hu.keep hb (hF _ e hn), hc⟩
theorem Seg.drew (h : Seg w T A xs) : Seg w.drew T A xs := h
theorem Seg.below (h : Seg w T A xs) (hk : Below w.heap.size w w') : Seg w' T A xs := h.keep (Keep.of_below hk)
theorem cell_of_obj {w : World} {b i : Nat} {cs : Array Value} {T : TypeId} {fz : Nat × Nat} (h : w.heap[b]? = some (.cells cs T fz)) : w.cell? ⟨b, i, none⟩ = cs[i]? := by
  simp [World.cell?, h]
theorem Seg.cell (h : Seg w T A xs) {j : Nat} (hj : j < xs.length) : ∃ b o, A = some ⟨b, o, none⟩ ∧ w.cell? ⟨b, o + j, none⟩ = some xs[j] := by
  obtain ⟨b, o, cs, fz, e, hb, hc⟩ := h (by omega)
  exact ⟨b, o, e, (cell_of_obj hb).trans (hc j _ (List.getElem?_eq_getElem hj))⟩
/-- one address for all places -/
theorem Seg.cells (h : Seg w T A xs) (hn : 0 < xs.length) : ∃ b o, A = some ⟨b, o, none⟩ ∧ b < w.heap.size ∧ ∀ j u, xs[j]? = some u → w.cell? ⟨b, o + j, none⟩ = some u := by
  obtain ⟨b, o, cs, fz, e, hb, hc⟩ := h hn
  exact ⟨b, o, e, heap_lt hb, fun j u hu => (cell_of_obj hb).trans (hc j u hu)⟩
theorem Seg.take (h : Seg w T A xs) (k : Nat) : Seg w T A (xs.take k) := fun hn => by
  obtain ⟨b, o, cs, fz, e, hb, hc⟩ := h (by simp at hn; omega)
  refine ⟨b, o, cs, fz, e, hb, fun j u hu => hc j u ?_⟩
  rw [List.getElem?_take] at hu
  split at hu
  · exact hu
  · cases hu
theorem Seg.drop (h : Seg w T A xs) (k : Nat) : Seg w T (A.map (·.add k)) (xs.drop k) := fun hn => by
  obtain ⟨b, o, cs, fz, rfl, hb, hc⟩ := h (by simp at hn; omega)
  refine ⟨b, o + k, cs, fz, by simp [Addr.add_lit], hb, fun j u hu => ?_⟩
  rw [List.getElem?_drop] at hu
  rw [Nat.add_assoc]
  exact hc (k + j) u hu
end

theorem Seg.new (w : World) (T : TypeId) (xs : List Value) : Seg (w.alloc (.cells xs.toArray T)) T (some ⟨w.heap.size, 0, none⟩) xs :=
  fun _ => ⟨w.heap.size, 0, xs.toArray, (0, 0), rfl, heap_alloc_new w _, fun j u hu => by simpa using hu⟩
theorem Seg.newAt (w : World) (T : TypeId) (xs : List Value) (b : Nat) (hb : b = w.heap.size) : Seg (w.alloc (.cells xs.toArray T)) T (some ⟨b, 0, none⟩) xs := by subst hb; exact Seg.new w T xs
theorem Seg.new_drew (w : World) (T : TypeId) (xs : List Value) : Seg (w.alloc (.cells xs.toArray T)).drew T (some ⟨w.heap.size, 0, none⟩) xs := Seg.new w T xs

/-- which block a slice may be written in -/
def fp (A : Option Addr) (cap : Nat) : List Nat := if cap = 0 then [] else match A with | some a => [a.block] | none => []

/-- a slice that one alone has: n elements of size cells, xs in all, in a block of elements of type e, and room behind them up to cap -/
structure OwnS (w : World) (e : TypeId) (size : Nat) (A : Option Addr) (n cap : Nat) (xs : List Value) : Prop where
  len : xs.length = n * size
  le : n ≤ cap
  cap_le : cap ≤ maxLen
  row : 0 < cap → ∃ g o cur, A = some ⟨g, o, none⟩ ∧ w.heap[g]? = some (.cells cur e (0, 0)) ∧ o + cap * size ≤ cur.size ∧ ∀ j u, xs[j]? = some u → cur[o + j]? = some u
section
variable {w w' : World} {e : TypeId} {size : Nat} {A : Option Addr} {n cap : Nat} {xs : List Value} {F : List Nat}
theorem OwnS.nil (w : World) (e : TypeId) (size : Nat) (A : Option Addr) : OwnS w e size A 0 0 [] := ⟨by simp, Nat.le_refl _, Nat.zero_le _, fun h => absurd h (by simp)⟩
theorem OwnS.seg (h : OwnS w e size A n cap xs) : Seg w e A xs := fun hn => by
  have hc : 0 < cap := by
    rcases Nat.eq_zero_or_pos cap with h0 | h0
    · have h1 := h.len
      have h2 := h.le
      have : n = 0 := by omega
      subst this
      simp at h1
      rw [h1] at hn
      simp at hn
    · exact h0
  obtain ⟨g, o, cur, e, hg, _, hx⟩ := h.row hc
  exact ⟨g, o, cur, (0, 0), e, hg, hx⟩
theorem OwnS.keep (h : OwnS w e size A n cap xs) (hk : Keep e w w') : OwnS w' e size A n cap xs :=
  ⟨h.len, h.le, h.cap_le, fun hc => by
    obtain ⟨g, o, cur, e, hg, hs, hx⟩ := h.row hc
    exact ⟨g, o, cur, e, hk _ _ _ hg, hs, hx⟩⟩
theorem OwnS.upd (h : OwnS w e size A n cap xs) (hu : Upd F w w') (hF : ∀ k, k ∈ fp A cap → k ∉ F) : OwnS w' e size A n cap xs :=
  ⟨h.len, h.le, h.cap_le, fun hc => by
    obtain ⟨g, o, cur, rfl, hg, hs, hx⟩ := h.row hc
    exact ⟨g, o, cur, rfl, hu.keep hg (hF g (by simp [fp, Nat.ne_of_gt hc])), hs, hx⟩⟩
theorem OwnS.below (h : OwnS w e size A n cap xs) (hk : Below w.heap.size w w') : OwnS w' e size A n cap xs := h.keep (Keep.of_below hk)
theorem OwnS.fp_lt (h : OwnS w e size A n cap xs) : ∀ k, k ∈ fp A cap → k < w.heap.size := by
  intro k hk
  unfold fp at hk
  split at hk
  · cases hk
  · obtain ⟨g, o, cur, rfl, hg, _⟩ := h.row (by omega)
    simp at hk
    subst hk
    exact heap_lt hg
theorem OwnS.of_own {base : Nat} {v : Value} (h : w.ownsRow base e size v n xs) : ∃ A cap, v = .slice A n cap ∧ OwnS w e size A n cap xs ∧ (∀ k, k ∈ fp A cap → base ≤ k) := by
  rcases h.2 with ⟨rfl, rfl⟩ | ⟨g, cap, cur, rfl, hbg, hg, hnc, hcm, hcs, htake⟩
  · have hx : xs = [] := List.eq_nil_of_length_eq_zero (by simpa using h.1)
    subst hx
    exact ⟨none, 0, rfl, OwnS.nil w e size none, by simp [fp]⟩
  · refine ⟨some ⟨g, 0, none⟩, cap, rfl, ⟨h.1, hnc, hcm, fun _ => ⟨g, 0, cur, rfl, hg, by omega, fun j u hu => ?_⟩⟩, ?_⟩
    · rw [← htake, List.getElem?_take] at hu
      split at hu
      · rw [Nat.zero_add]; simpa using hu
      · cases hu
    · intro k hk
      unfold fp at hk
      split at hk
      · cases hk
      · simp at hk; omega
end

/-- rows of other elements stay -/
theorem OwnS.keep_ne {w w' : World} {e T : TypeId} {size : Nat} {A : Option Addr} {n cap : Nat} {xs : List Value} (h : OwnS w e size A n cap xs) (hu : Upd (fp A cap) w w') (hne : e ≠ T) : Keep T w w' :=
  Keep.of_upd hu fun k hk cs fz he => by
    unfold fp at hk
    split at hk
    · cases hk
    · obtain ⟨b, o, cur, rfl, hb, _⟩ := h.row (by omega)
      simp at hk
      subst hk
      rw [hb] at he
      injection he with he
      injection he with _ ht
      exact hne ht

section
variable {P : Program} (w : World)
theorem run_firstCells_seg (size m : Nat) (A : Option Addr) (c : Nat) (T : TypeId) (news : List Value) (hl : news.length = m * size) (hs : Seg w T A news) :
    (Builtin.firstCells size m (.slice A m c)).run P w = .ok news.toArray w := by
  rcases Nat.eq_zero_or_pos news.length with h0 | h0
  · have hn : news = [] := List.eq_nil_of_length_eq_zero h0
    subst hn
    have hm : m * size = 0 := by simpa using hl.symm
    cases A with
    | none => simp [Builtin.firstCells]
    | some a => simp [Builtin.firstCells, hm, loadCells, loadCellsFrom]
  · obtain ⟨b, o, rfl, _, hc⟩ := hs.cells h0
    exact run_firstCells_some (P := P) w size m ⟨b, o, none⟩ m c news hl (fun j u hu => by rw [Addr.add_lit]; exact hc j u hu)

/-- append onto an owned slice, of whatever cells -/
theorem run_append_s (t ty e T : TypeId) (i : TypeInfo) (z : Value) (size bytes : Nat) (ht : P.underlying t = some (.slice e)) (hi : P.info? e = some i) (hz : i.zero = some z)
    (hsize : i.size = size) (hby : i.bytes = bytes) (hzs : z.cells.size = size)
    (A : Option Addr) (n cap : Nat) (xs : List Value) (hown : OwnS w e size A n cap xs)
    (B : Option Addr) (m c : Nat) (news : List Value) (hl : news.length = m * size) (hr : Seg w T B news) (h1 : ∀ u ∈ news, u.oneCell' = true)
    (h63 : n + m ≤ maxLen) (hbytes : (n + m) * bytes ≤ 140737488355328) :
    ∃ A' cap' w', (Builtin.append_ #[t, t] ty #[.slice A n cap, .slice B m c]).run P w = .ok (.slice A' (n + m) cap') w' ∧ OwnS w' e size A' (n + m) cap' (xs ++ news) ∧ Upd (fp A cap) w w' ∧
      (∀ k, k ∈ fp A' cap' → k ∈ fp A cap ∨ w.heap.size ≤ k) := by
  subst hsize
  subst hby
  have hlen : (xs ++ news).length = (n + m) * i.size := by rw [List.length_append, hown.len, hl, Nat.add_mul]
  have hfn := run_firstCells_seg (P := P) w i.size m B c T news hl hr
  by_cases hroom : n + m ≤ cap
  · rcases Nat.eq_zero_or_pos cap with h0 | h0
    · subst h0
      obtain ⟨rfl, rfl⟩ : n = 0 ∧ m = 0 := by omega
      have hx : xs = [] := List.eq_nil_of_length_eq_zero (by simpa using hown.len)
      have hn : news = [] := List.eq_nil_of_length_eq_zero (by simpa using hl)
      subst hx hn
      refine ⟨A, 0, w, ?_, OwnS.nil w e i.size A, Upd.refl _ w, fun k hk => .inl hk⟩
      cases A <;> simp [Builtin.append_, run_underlying ht, sizeOf, typeInfo, hi, Builtin.lenOf, hfn, storeCells]
    · obtain ⟨g, o, cur, rfl, hg, hsz, hx⟩ := hown.row h0
      have hfit : o + n * i.size + news.length ≤ cur.size := by
        have : (n + m) * i.size ≤ cap * i.size := Nat.mul_le_mul_right _ hroom
        rw [hl]; rw [Nat.add_mul] at this; omega
      have hst := run_storeCells_at P g (o + n * i.size) e news 0 cur w hg (by simpa using hfit) h1
      simp only [Nat.add_zero] at hst
      refine ⟨some ⟨g, o, none⟩, cap, _, by simp [Builtin.append_, run_underlying ht, sizeOf, typeInfo, hi, Builtin.lenOf, hroom, hfn, Addr.add_lit, hst]; rfl, ⟨hlen, hroom, hown.cap_le, fun _ => ⟨g, o, _, rfl, setRow_heap w g cur _ e _ hg, ?_, ?_⟩⟩, ⟨rfl, rfl, rfl, by simp, fun k _ hk => setRow_other w g k _ (fun e => hk (by simp [fp, Nat.ne_of_gt h0, e]))⟩, fun k hk => .inl hk⟩
      · simp only [List.size_toArray, List.length_append, List.length_take, List.length_drop, Array.length_toList]
        omega
      · intro j u hu
        rw [← Array.getElem?_toList]
        rw [List.getElem?_append] at hu
        split at hu
        · rename_i hj
          rw [hown.len] at hj
          rw [List.getElem?_append_left (by simp; omega), List.getElem?_take_of_lt (by omega), Array.getElem?_toList]
          exact hx j u hu
        · rename_i hj
          rw [hown.len] at hj hu
          have hj2 : j - n * i.size < news.length := (List.getElem?_eq_some_iff.1 hu).1
          rw [List.getElem?_append_right (by simp; omega)]
          simp only [List.length_take, Array.length_toList]
          rw [List.getElem?_append_left (by omega), ← hu]
          congr 1
          omega
  · have hgf := growslice_fits (need := n + m) (old := cap) (by omega) hbytes
    have h63' : ¬ (9223372036854775807 < ((n : Int) + (m : Int))) := by simp only [maxLen] at h63; omega
    have h48' : ¬ (281474976710656 < Builtin.nextslicecap (n + m) cap * i.bytes) := by omega
    have hfn' := run_firstCells_seg (P := P) w.drew i.size m B c T news hl hr
    have hfo' := run_firstCells_seg (P := P) w.drew i.size n A cap e xs hown.len hown.seg
    refine ⟨some ⟨w.heap.size, 0, none⟩, grownCap w (n + m) cap e, w.drew.alloc (.cells (xs.toArray ++ news.toArray ++ Builtin.zeroCells z.cells (grownCap w (n + m) cap e - (n + m))) e), ?_, ?_, ?_, ?_⟩
    · simp [Builtin.append_, run_underlying ht, sizeOf, typeInfo, zeroValue, hi, hz, Builtin.lenOf, hroom, h63', h48', Question.forced, hfn', hfo', newRow, grownCap]
      congr 2
      apply Array.ext'
      simp [List.append_assoc]
    · have hge := grownCap_ge w (n + m) cap e
      refine ⟨hlen, hge, grownCap_le_maxLen w (n + m) cap e h63, fun _ => ⟨w.heap.size, 0, _, rfl, heap_alloc_new w.drew _, ?_, ?_⟩⟩
      · simp only [Array.size_append, List.size_toArray, size_zeroCells, hzs, hown.len, hl, ← Nat.add_mul, Nat.zero_add]
        exact Nat.mul_le_mul_right _ (by omega)
      · intro j u hu
        rw [Nat.zero_add, ← Array.getElem?_toList]
        simp only [Array.toList_append]
        rw [List.getElem?_append_left]
        · exact hu
        · simpa using (List.getElem?_eq_some_iff.1 hu).1
    · exact ((Upd.refl (fp A cap) w).drew).alloc _
    · intro k hk
      refine .inr ?_
      unfold fp at hk
      split at hk
      · cases hk
      · simp at hk; omega

theorem wp_append_s {o : Oper} {a : Act} {K : Act → World → Prop} {Q : Exit → Act → World → Prop} (s x : Operand) (t : TypeId)
    (ho : o.op = .call { callee := .builtin .append, args := #[s, x], argTypes := #[t, t] })
    (e T : TypeId) (i : TypeInfo) (z : Value) (size bytes : Nat) (ht : P.underlying t = some (.slice e)) (hi : P.info? e = some i) (hz : i.zero = some z)
    (hsize : i.size = size) (hby : i.bytes = bytes) (hzs : z.cells.size = size)
    (A : Option Addr) (n cap : Nat) (xs : List Value) (hs : a.eval s = .slice A n cap) (hown : OwnS w e size A n cap xs)
    (B : Option Addr) (m c : Nat) (news : List Value) (hx : a.eval x = .slice B m c) (hl : news.length = m * size) (hr : Seg w T B news) (h1 : ∀ u ∈ news, u.oneCell' = true)
    (h63 : n + m ≤ maxLen) (hbytes : (n + m) * bytes ≤ 140737488355328)
    (h : ∀ A' cap' w', OwnS w' e size A' (n + m) cap' (xs ++ news) → Upd (fp A cap) w w' → (∀ k, k ∈ fp A' cap' → k ∈ fp A cap ∨ w.heap.size ≤ k) → K (a.put o.dst (.slice A' (n + m) cap')) w') : o.wp P a w K Q := by
  obtain ⟨A', cap', w', hrun, h2, h3, h4⟩ := run_append_s (P := P) w t o.type e T i z size bytes ht hi hz hsize hby hzs A n cap xs hown B m c news hl hr h1 h63 hbytes
  unfold Oper.wp execOp
  simp only [ho, resolve, invoke, builtin, Sem.run_bind, Sem.run_pure, Result.andThen_ok, List.map_toArray, List.map_cons, List.map_nil, hs, hx, hrun]
  exact h A' cap' w' h2 h3 h4

theorem wpList_append_s {ops : Array Oper} {rest : List Oper} {o : Oper} {a : Act} {Q : Exit → Act → World → Prop} (hgd : o.guard = none) (s x : Operand) (t : TypeId)
    (ho : o.op = .call { callee := .builtin .append, args := #[s, x], argTypes := #[t, t] })
    (e T : TypeId) (i : TypeInfo) (z : Value) (size bytes : Nat) (ht : P.underlying t = some (.slice e)) (hi : P.info? e = some i) (hz : i.zero = some z)
    (hsize : i.size = size) (hby : i.bytes = bytes) (hzs : z.cells.size = size)
    (A : Option Addr) (n cap : Nat) (xs : List Value) (hs : a.eval s = .slice A n cap) (hown : OwnS w e size A n cap xs)
    (B : Option Addr) (m c : Nat) (news : List Value) (hx : a.eval x = .slice B m c) (hl : news.length = m * size) (hr : Seg w T B news) (h1 : ∀ u ∈ news, u.oneCell' = true)
    (h63 : n + m ≤ maxLen) (hbytes : (n + m) * bytes ≤ 140737488355328)
    (h : ∀ A' cap' w', OwnS w' e size A' (n + m) cap' (xs ++ news) → Upd (fp A cap) w w' → (∀ k, k ∈ fp A' cap' → k ∈ fp A cap ∨ w.heap.size ≤ k) → wpList P ops Q rest (a.put o.dst (.slice A' (n + m) cap')) w') : wpList P ops Q (o :: rest) a w :=
  wpList_plain hgd fun _ hK => wp_append_s w s x t ho e T i z size bytes ht hi hz hsize hby hzs A n cap xs hs hown B m c news hx hl hr h1 h63 hbytes fun A' cap' w' h2 h3 h4 => hK _ _ (h A' cap' w' h2 h3 h4)

theorem step_append_s {ops : Array Oper} {o : Oper} {a : Act} {K : Act → World → Prop} {Q : Exit → Act → World → Prop} {E : Prop} (hgd : o.guard = none) (s x : Operand) (t : TypeId)
    (ho : o.op = .call { callee := .builtin .append, args := #[s, x], argTypes := #[t, t] })
    (e T : TypeId) (i : TypeInfo) (z : Value) (size bytes : Nat) (ht : P.underlying t = some (.slice e)) (hi : P.info? e = some i) (hz : i.zero = some z)
    (hsize : i.size = size) (hby : i.bytes = bytes) (hzs : z.cells.size = size)
    (A : Option Addr) (n cap : Nat) (xs : List Value) (hs : a.eval s = .slice A n cap) (hown : OwnS w e size A n cap xs)
    (B : Option Addr) (m c : Nat) (news : List Value) (hx : a.eval x = .slice B m c) (hl : news.length = m * size) (hr : Seg w T B news) (h1 : ∀ u ∈ news, u.oneCell' = true)
    (h63 : n + m ≤ maxLen) (hbytes : (n + m) * bytes ≤ 140737488355328)
    (h : ∀ A' cap' w', OwnS w' e size A' (n + m) cap' (xs ++ news) → Upd (fp A cap) w w' → (∀ k, k ∈ fp A' cap' → k ∈ fp A cap ∨ w.heap.size ≤ k) → K (a.put o.dst (.slice A' (n + m) cap')) w') :
    if Region.wanted o (yielded ops a.tmps) = true then Oper.wp P o a w K Q else E := by
  have hw : Region.wanted o (yielded ops a.tmps) = true := by simp [Region.wanted, hgd]
  rw [if_pos hw]
  exact wp_append_s w s x t ho e T i z size bytes ht hi hz hsize hby hzs A n cap xs hs hown B m c news hx hl hr h1 h63 hbytes h
end
end Go.Proofs.Ytemcpldipjbleaa
