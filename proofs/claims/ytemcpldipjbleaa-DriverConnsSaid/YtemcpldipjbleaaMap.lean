/- Maps keyed by int, told as the list of their entries in the order in which they came. No program in sight. -/
import Derived.Test.YtemcpldipjbleaaMem
import Derived.Maps.Own
import Derived.Maps.OwnOps
import Derived.Maps.OwnSet
namespace Go.Proofs.Ytemcpldipjbleaa
open Go.RowKit

/-- block b is a map that holds just es, oldest first -/
structure MapI (w : World) (b : Nat) (es : List (Int × Value)) : Prop where
  nd : (es.map Prod.fst).Nodup
  row : ∃ (ents : Array MapEntry) (clock : Nat), w.heap[b]? = some (.map ents clock) ∧ ents.toList.map (fun e => (e.key, e.val)) = es.map (fun p => (Value.int .i64 p.1, p.2)) ∧
    (ents.toList.map MapEntry.born).Nodup ∧ ∀ e ∈ ents.toList, e.born < clock

def lookI (es : List (Int × Value)) (k : Int) : Option Value := (es.find? (·.1 == k)).map (·.2)

section
variable {w w' : World} {b : Nat} {es : List (Int × Value)} {F : List Nat}
theorem MapI.lt (h : MapI w b es) : b < w.heap.size := by
  obtain ⟨ents, clock, hb, _⟩ := h.row
  exact heap_lt hb
theorem MapI.upd (h : MapI w b es) (hu : Upd F w w') (hn : b ∉ F) : MapI w' b es := by
  obtain ⟨ents, clock, hb, hr⟩ := h.row
  exact ⟨h.nd, ents, clock, hu.keep hb hn, hr⟩
theorem MapI.below (h : MapI w b es) (hu : Below w.heap.size w w') : MapI w' b es := h.upd (Upd.of_below hu []) (by simp)
theorem MapI.drew (h : MapI w b es) : MapI w.drew b es := ⟨h.nd, h.row⟩
theorem MapI.drewN (h : MapI w b es) (n : Nat) : MapI (w.drewN n) b es := ⟨h.nd, h.row⟩
theorem MapI.alloc (h : MapI w b es) (o : Obj) : MapI (w.alloc o) b es := by
  obtain ⟨ents, clock, hb, hr⟩ := h.row
  exact ⟨h.nd, ents, clock, (Below.heap_alloc w o b (heap_lt hb)).trans hb, hr⟩
theorem MapI.setCell (h : MapI w b es) {p : Addr} (hp : b ≠ p.block) (u : Value) : MapI (w.setCell p u) b es := by
  obtain ⟨ents, clock, hb, hr⟩ := h.row
  exact ⟨h.nd, ents, clock, (Below.heap_setCell w p u b hp).trans hb, hr⟩
theorem MapI.new (w : World) : MapI (w.alloc (.map #[] 0)) w.heap.size [] := ⟨by simp, #[], 0, heap_alloc_new w _, by simp, by simp, by simp⟩
theorem MapI.ne_blk (h : MapI w b es) {g : Nat} {t : TypeId} {cs : Array Value} (hg : Blk w g t cs) : b ≠ g := by
  rintro rfl
  obtain ⟨ents, clock, hb, _⟩ := h.row
  unfold Blk at hg
  rw [hg] at hb
  cases hb
theorem MapI.not (h : MapI w b es) (T : TypeId) : ∀ (cs : Array Value) (fz : Nat × Nat), w.heap[b]? ≠ some (.cells cs T fz) := by
  intro cs fz e
  obtain ⟨ents, clock, hb, _⟩ := h.row
  rw [e] at hb
  cases hb
theorem lookI_nil (k : Int) : lookI [] k = none := rfl
theorem lookI_cons (p : Int × Value) (l : List (Int × Value)) (k : Int) : lookI (p :: l) k = if p.1 = k then some p.2 else lookI l k := by
  unfold lookI
  by_cases h : p.1 = k <;> simp [h]
theorem lookI_mem {es : List (Int × Value)} {k : Int} {v : Value} (h : lookI es k = some v) : (k, v) ∈ es := by
  induction es with
  | nil => cases h
  | cons p l ih =>
    rw [lookI_cons] at h
    split at h
    · rename_i hk
      injection h with h
      subst hk h
      simp
    · exact List.mem_cons_of_mem _ (ih h)
theorem lookI_none {es : List (Int × Value)} {k : Int} : lookI es k = none ↔ k ∉ es.map Prod.fst := by
  induction es with
  | nil => simp [lookI]
  | cons p l ih =>
    rw [lookI_cons]
    by_cases h : p.1 = k
    · simp [h]
    · rw [if_neg h, ih]; simp [Ne.symm h]
end

theorem findNow_int (q : IntKind) (k : Int) : ∀ (ents : List MapEntry) (es : List (Int × Value)) (i : Nat), ents.map (fun e => (e.key, e.val)) = es.map (fun p => (Value.int q p.1, p.2)) →
    Instr.findNow (.int q) (.int q k) ents i = some ((es.zipIdx i).findSome? fun p => if k = p.1.1 then some (p.2, p.1.2) else none)
  | [], es, i, h => by
    have : es = [] := by simpa using h.symm
    subst this
    rfl
  | e :: ents, [], i, h => by simp at h
  | e :: ents, p :: es, i, h => by
    simp only [List.map_cons, List.cons.injEq, Prod.mk.injEq] at h
    obtain ⟨⟨hk, hv⟩, ht⟩ := h
    have ih := findNow_int q k ents es (i + 1) ht
    simp only [Instr.findNow, hk, Instr.sameNow, if_true, List.zipIdx_cons, List.findSome?_cons]
    by_cases hkp : k = p.1
    · simp [hkp, hv]
    · have : (k == p.1) = false := by simpa using hkp
      simp [this, hkp, ih]

/-- the place of a key -/
def idxI : List (Int × Value) → Int → Nat → Option (Nat × Value)
  | [], _, _ => none
  | p :: l, k, i => if k = p.1 then some (i, p.2) else idxI l k (i + 1)
theorem idxI_eq (k : Int) : ∀ (es : List (Int × Value)) (i : Nat), ((es.zipIdx i).findSome? fun p => if k = p.1.1 then some (p.2, p.1.2) else none) = idxI es k i
  | [], i => rfl
  | p :: es, i => by
    simp only [List.zipIdx_cons, List.findSome?_cons, idxI]
    by_cases h : k = p.1
    · simp [h]
    · simp [h, idxI_eq k es (i + 1)]
theorem idxI_look (k : Int) : ∀ (es : List (Int × Value)) (i : Nat), (idxI es k i).map (·.2) = lookI es k
  | [], i => rfl
  | p :: es, i => by
    rw [lookI_cons, idxI]
    by_cases h : k = p.1
    · simp [h]
    · rw [if_neg h, if_neg (Ne.symm h)]; exact idxI_look k es (i + 1)
theorem idxI_some {k : Int} : ∀ {es : List (Int × Value)} {i j : Nat} {v : Value}, idxI es k i = some (j, v) → i ≤ j ∧ es[j - i]? = some (k, v) ∧ ∀ m, m < j - i → ∀ p, es[m]? = some p → p.1 ≠ k
  | [], i, j, v, h => by cases h
  | p :: es, i, j, v, h => by
    rw [idxI] at h
    split at h
    · rename_i hk
      injection h with h
      injection h with h1 h2
      subst h1 h2 hk
      exact ⟨Nat.le_refl _, by simp, fun m hm => by omega⟩
    · rename_i hk
      obtain ⟨h1, h2, h3⟩ := idxI_some h
      refine ⟨by omega, ?_, fun m hm q hq => ?_⟩
      · rw [show j - i = (j - (i + 1)) + 1 from by omega]; simpa using h2
      · cases m with
        | zero => simp at hq; subst hq; exact Ne.symm hk
        | succ m => exact h3 m (by omega) q (by simpa using hq)

section
variable {P : Program} {t k e : TypeId} (w : World)
theorem run_checkKey_int (em : Bool) (n : Int) (q : IntKind) (hk : P.underlying k = some (.int q)) : (Instr.checkKey em 10000 k (.int q n)).run P w = .ok () w := by
  have hm : ∀ m : Nat, (Instr.checkKey em (m + 1) k (.int q n)).run P w = .ok () w := fun m => by simp [Instr.checkKey, run_underlying hk]
  exact hm 9999

theorem run_findKey_int (ents : List MapEntry) (es : List (Int × Value)) (q : IntKind) (hk : P.underlying k = some (.int q)) (n : Int) (h : ents.map (fun e => (e.key, e.val)) = es.map (fun p => (Value.int q p.1, p.2))) :
    (Instr.findKey k (.int q n) ents).run P w = .ok (idxI es n 0) w := by
  simp [Instr.findKey, run_underlying hk, findNow_int q n ents es 0 h, idxI_eq]

theorem run_getObj_map {b : Nat} {ents : Array MapEntry} {clock : Nat} (hb : w.heap[b]? = some (.map ents clock)) : (getObj b).run P w = .ok (.map ents clock) w := by
  simp [getObj, Sem.run, hb]

/-- m[n] -/
theorem MapI.look {w : World} {b : Nat} {es : List (Int × Value)} (h : MapI w b es) (ht : P.underlying t = some (.map k e)) (hk : P.underlying k = some (.int .i64)) {z : Value} (hz : (zeroValue e).run P w = .ok z w) (n : Int) (c : Bool) :
    (Instr.lookup t (.map (some b)) (.int .i64 n) c).run P w = .ok (if c then .tuple #[(lookI es n).getD z, .bool (lookI es n).isSome] else (lookI es n).getD z) w := by
  obtain ⟨ents, clock, hb, he, _⟩ := h.row
  have hf := run_findKey_int (P := P) (k := k) w ents.toList es .i64 hk n he
  have hl := idxI_look n es 0
  simp only [Instr.lookup, Sem.run_bind, run_underlying ht, Result.andThen_ok, run_getObj_map w hb, Sem.run_pure, run_checkKey_int w _ n .i64 hk, hf]
  cases hx : idxI es n 0 with
  | none =>
    rw [hx] at hl
    simp only [Option.map_none] at hl
    rw [← hl]
    simp [hz]
  | some x =>
    rw [hx] at hl
    simp only [Option.map_some] at hl
    rw [← hl]
    simp

theorem lookNil (ht : P.underlying t = some (.map k e)) (hk : P.underlying k = some (.int .i64)) {z : Value} (hz : (zeroValue e).run P w = .ok z w) (n : Int) (c : Bool) :
    (Instr.lookup t (.map none) (.int .i64 n) c).run P w = .ok (if c then .tuple #[z, .bool false] else z) w := by
  have hf := run_findKey_int (P := P) (k := k) w [] [] .i64 hk n rfl
  simp only [Instr.lookup, Sem.run_bind, run_underlying ht, Result.andThen_ok, Sem.run_pure, run_checkKey_int w _ n .i64 hk, hf, idxI]
  simp [hz]

theorem upd_putObj {b : Nat} {o : Obj} : Upd [b] w { w with heap := w.heap.setIfInBounds b o } :=
  ⟨rfl, rfl, rfl, by simp, fun j _ hj => by
    have hne : b ≠ j := fun e => hj (by simp [e])
    simp [hne]⟩

/-- m[n] = v at a key that is new -/
theorem MapI.add {w : World} {b : Nat} {es : List (Int × Value)} (h : MapI w b es) (ht : P.underlying t = some (.map k e)) (hk : P.underlying k = some (.int .i64)) (n : Int) (hn : n ∉ es.map Prod.fst) (v : Value) :
    ∃ w', (Instr.mapUpdate t (.map (some b)) (.int .i64 n) v).run P w = .ok () w' ∧ MapI w' b (es ++ [(n, v)]) ∧ Upd [b] w w' := by
  obtain ⟨ents, clock, hb, he, hnd, hlt⟩ := h.row
  have hf := run_findKey_int (P := P) (k := k) w ents.toList es .i64 hk n he
  have hx : idxI es n 0 = none := by
    have := idxI_look n es 0
    rw [lookI_none.2 hn] at this
    simpa using this
  rw [hx] at hf
  refine ⟨{ w with heap := w.heap.setIfInBounds b (.map (ents.push { key := .int .i64 n, val := v, born := clock }) (clock + 1)) }, ?_, ⟨?_, ents.push { key := .int .i64 n, val := v, born := clock }, clock + 1, ?_, ?_, ?_, ?_⟩, upd_putObj w⟩
  · simp [Instr.mapUpdate, run_underlying ht, run_getObj_map w hb, run_checkKey_int w _ n .i64 hk, hf, setObj, Sem.run, hb]
  · rw [List.map_append, List.nodup_append]
    exact ⟨h.nd, by simp, fun a ha b hb => by simp at hb; subst hb; exact fun e => hn (e ▸ ha)⟩
  · simp [heap_lt hb]
  · simp [he]
  · simp only [Array.toList_push, List.map_append, List.map_cons, List.map_nil]
    rw [List.nodup_append]
    refine ⟨hnd, by simp, fun a ha b hb => ?_⟩
    simp at hb
    subst hb
    obtain ⟨x, hx, rfl⟩ := List.mem_map.1 ha
    exact Nat.ne_of_lt (hlt x hx)
  · intro x hx
    simp at hx
    rcases hx with hx | rfl
    · have := hlt x (by simpa using hx); omega
    · simp

/-- es with another value at a key -/
def putI (es : List (Int × Value)) (n : Int) (v : Value) : List (Int × Value) := es.map fun p => if p.1 = n then (n, v) else p

theorem putI_fst (es : List (Int × Value)) (n : Int) (v : Value) : (putI es n v).map Prod.fst = es.map Prod.fst := by
  unfold putI
  rw [List.map_map]
  apply List.map_congr_left
  intro p _
  simp only [Function.comp]
  split
  · rename_i h; exact h.symm
  · rfl

theorem lookI_putI (es : List (Int × Value)) (n : Int) (v : Value) (m : Int) : lookI (putI es n v) m = if m = n then (lookI es n).map (fun _ => v) else lookI es m := by
  induction es with
  | nil => simp [putI, lookI]
  | cons p l ih =>
    have hp : putI (p :: l) n v = (if p.1 = n then (n, v) else p) :: putI l n v := rfl
    rw [hp, lookI_cons, lookI_cons, ih]
    by_cases h1 : p.1 = n
    · by_cases h2 : m = n
      · simp [h1, h2]
      · have : ¬ n = m := fun e => h2 e.symm
        simp [h1, h2, this, lookI_cons]
    · by_cases h2 : m = n
      · subst h2; simp [h1]
      · simp [h1, h2, lookI_cons]

theorem idxI_set {es : List (Int × Value)} {n : Int} {v : Value} (nd : (es.map Prod.fst).Nodup) : ∀ {j : Nat} {u : Value}, es[j]? = some (n, u) → es.set j (n, v) = putI es n v := by
  induction es with
  | nil => intro j u h; simp at h
  | cons p l ih =>
    intro j u h
    rw [List.map_cons, List.nodup_cons] at nd
    cases j with
    | zero =>
      simp at h
      subst h
      show (n, v) :: l = putI ((n, u) :: l) n v
      have : putI l n v = l := by
        unfold putI
        conv => rhs; rw [← List.map_id l]
        apply List.map_congr_left
        intro q hq
        have : q.1 ≠ n := fun e => nd.1 (by rw [← e]; exact List.mem_map.2 ⟨q, hq, rfl⟩)
        simp [this]
      have hp : putI ((n, u) :: l) n v = (n, v) :: putI l n v := by simp [putI]
      rw [hp, this]
    | succ j =>
      simp at h
      have hpn : p.1 ≠ n := fun e => nd.1 (by rw [e]; exact List.mem_map.2 ⟨(n, u), List.mem_of_getElem? h, rfl⟩)
      have hp : putI (p :: l) n v = p :: putI l n v := by simp [putI, hpn]
      rw [hp, List.set_cons_succ, ih nd.2 h]

/-- m[n] = v at a key that is there -/
theorem MapI.put {w : World} {b : Nat} {es : List (Int × Value)} (h : MapI w b es) (ht : P.underlying t = some (.map k e)) (hk : P.underlying k = some (.int .i64)) (n : Int) (hn : n ∈ es.map Prod.fst) (v : Value) :
    ∃ w', (Instr.mapUpdate t (.map (some b)) (.int .i64 n) v).run P w = .ok () w' ∧ MapI w' b (putI es n v) ∧ Upd [b] w w' := by
  obtain ⟨ents, clock, hb, he, hnd, hlt⟩ := h.row
  have hf := run_findKey_int (P := P) (k := k) w ents.toList es .i64 hk n he
  obtain ⟨⟨j, u⟩, hx⟩ : ∃ x, idxI es n 0 = some x := by
    cases hx : idxI es n 0 with
    | some x => exact ⟨x, rfl⟩
    | none =>
      have := idxI_look n es 0
      rw [hx] at this
      exact absurd hn (lookI_none.1 (by simpa using this.symm))
  rw [hx] at hf
  obtain ⟨_, hj, _⟩ := idxI_some hx
  simp only [Nat.sub_zero] at hj
  have hlen : ents.toList.length = es.length := by have := congrArg List.length he; simpa using this
  have hjl : j < ents.size := by
    have := (List.getElem?_eq_some_iff.1 hj).1
    simp at hlen; omega
  have hkey : ents[j].key = .int .i64 n := by
    have h1 := congrArg (·[j]?) he
    simp only [List.getElem?_map, hj, Option.map_some, Array.getElem?_toList, Array.getElem?_eq_getElem hjl] at h1
    injection h1 with h1
    injection h1
  refine ⟨{ w with heap := w.heap.setIfInBounds b (.map (ents.modify j fun e => { e with key := .int .i64 n, val := v }) clock) }, ?_, ⟨?_, ents.modify j fun e => { e with key := .int .i64 n, val := v }, clock, ?_, ?_, ?_, ?_⟩, upd_putObj w⟩
  · simp [Instr.mapUpdate, run_underlying ht, run_getObj_map w hb, run_checkKey_int w _ n .i64 hk, hf, setObj, Sem.run, hb, Instr.keyThatStays, hjl, hkey, Instr.sameBits]
  · rw [putI_fst]; exact h.nd
  · simp [heap_lt hb]
  · rw [← idxI_set h.nd hj (v := v)]
    apply List.ext_getElem?
    intro m
    have hm := congrArg (·[m]?) he
    simp only [List.getElem?_map, Array.getElem?_toList] at hm
    simp only [List.getElem?_map, Array.getElem?_toList, Array.getElem?_modify, List.getElem?_set]
    by_cases hjm : j = m
    · subst hjm
      have hj2 : j < es.length := (List.getElem?_eq_some_iff.1 hj).1
      simp [hjl, hj2]
    · simp [hjm, hm]
  · have : (ents.modify j fun e => { e with key := .int .i64 n, val := v }).toList.map MapEntry.born = ents.toList.map MapEntry.born := by
      apply List.ext_getElem?
      intro m
      simp only [List.getElem?_map, Array.getElem?_toList, Array.getElem?_modify]
      by_cases hjm : j = m
      · subst hjm; simp [hjl]
      · simp [hjm]
    rw [this]; exact hnd
  · intro x hx
    obtain ⟨m, hm⟩ := List.getElem?_of_mem hx
    simp only [Array.getElem?_toList, Array.getElem?_modify] at hm
    by_cases hjm : j = m
    · subst hjm
      simp [hjl] at hm
      subst hm
      exact hlt ents[j] (by simp)
    · simp [hjm] at hm
      exact hlt x (List.mem_of_getElem? (by simpa using hm))

theorem eraseIdx_key {es : List (Int × Value)} {n : Int} (nd : (es.map Prod.fst).Nodup) : ∀ {j : Nat} {u : Value}, es[j]? = some (n, u) → es.eraseIdx j = es.filter fun p => !(p.1 == n) := by
  induction es with
  | nil => intro j u h; simp at h
  | cons p l ih =>
    intro j u h
    rw [List.map_cons, List.nodup_cons] at nd
    cases j with
    | zero =>
      simp at h
      subst h
      have : l.filter (fun p => !(p.1 == n)) = l := List.filter_eq_self.2 fun q hq => by
        have : q.1 ≠ n := fun e => nd.1 (by rw [← e]; exact List.mem_map.2 ⟨q, hq, rfl⟩)
        simpa using this
      simp [this]
    | succ j =>
      simp at h
      have hpn : p.1 ≠ n := fun e => nd.1 (by rw [e]; exact List.mem_map.2 ⟨(n, u), List.mem_of_getElem? h, rfl⟩)
      simp [hpn, ih nd.2 h]

theorem map_eraseIdx' {α β : Type} (f : α → β) : ∀ (l : List α) (j : Nat), (l.eraseIdx j).map f = (l.map f).eraseIdx j
  | [], j => by simp
  | a :: l, 0 => by simp
  | a :: l, j + 1 => by simp [map_eraseIdx' f l j]

/-- delete(m, n) -/
theorem MapI.del {w : World} {b : Nat} {es : List (Int × Value)} (h : MapI w b es) (ht : P.underlying t = some (.map k e)) (hk : P.underlying k = some (.int .i64)) (n : Int) (ty : TypeId) :
    ∃ w', (Builtin.delete_ #[t, k] ty #[.map (some b), .int .i64 n]).run P w = .ok (.tuple #[]) w' ∧ MapI w' b (es.filter fun p => !(p.1 == n)) ∧ Upd [b] w w' := by
  obtain ⟨ents, clock, hb, he, hnd, hlt⟩ := h.row
  have hf := run_findKey_int (P := P) (k := k) w ents.toList es .i64 hk n he
  cases hx : idxI es n 0 with
  | none =>
    rw [hx] at hf
    have hno : n ∉ es.map Prod.fst := by
      have := idxI_look n es 0
      rw [hx] at this
      exact lookI_none.1 (by simpa using this.symm)
    have hes : (es.filter fun p => !(p.1 == n)) = es := List.filter_eq_self.2 fun q hq => by
      have : q.1 ≠ n := fun e => hno (by rw [← e]; exact List.mem_map.2 ⟨q, hq, rfl⟩)
      simpa using this
    refine ⟨{ w with heap := w.heap.setIfInBounds b (.map ents clock) }, ?_, ?_, upd_putObj w⟩
    · simp [Builtin.delete_, run_underlying ht, run_getObj_map w hb, run_checkKey_int w _ n .i64 hk, hf, setObj, Sem.run, hb]
    · rw [hes]
      exact ⟨h.nd, ents, clock, by simp [heap_lt hb], he, hnd, hlt⟩
  | some x =>
    obtain ⟨j, u⟩ := x
    rw [hx] at hf
    obtain ⟨_, hj, _⟩ := idxI_some hx
    simp only [Nat.sub_zero] at hj
    have hlen : ents.toList.length = es.length := by have := congrArg List.length he; simpa using this
    refine ⟨{ w with heap := w.heap.setIfInBounds b (.map (ents.eraseIdxIfInBounds j) clock) }, ?_, ⟨?_, ents.eraseIdxIfInBounds j, clock, ?_, ?_, ?_, ?_⟩, upd_putObj w⟩
    · simp [Builtin.delete_, run_underlying ht, run_getObj_map w hb, run_checkKey_int w _ n .i64 hk, hf, setObj, Sem.run, hb]
    · exact h.nd.sublist (List.filter_sublist.map _)
    · simp [heap_lt hb]
    · rw [← eraseIdx_key h.nd hj, Array.toList_eraseIdxIfInBounds, map_eraseIdx', map_eraseIdx', he]
    · rw [Array.toList_eraseIdxIfInBounds]
      exact hnd.sublist ((List.eraseIdx_sublist _ _).map _)
    · intro x hx
      rw [Array.toList_eraseIdxIfInBounds] at hx
      exact hlt x ((List.eraseIdx_sublist _ _).subset hx)

/-- len(m) -/
theorem MapI.size {w : World} {b : Nat} {es : List (Int × Value)} (h : MapI w b es) (ht : P.underlying t = some (.map k e)) (ty : TypeId) :
    (Builtin.len_ #[t] ty #[.map (some b)]).run P w = .ok (.int .i64 es.length) w := by
  obtain ⟨ents, clock, hb, he, _⟩ := h.row
  have hlen : ents.toList.length = es.length := by have := congrArg List.length he; simpa using this
  simp at hlen
  simp [Builtin.len_, run_underlying ht, run_getObj_map w hb, hlen, goInt]
end
end Go.Proofs.Ytemcpldipjbleaa
