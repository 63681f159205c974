/- Maps keyed by int at the operation, for the walk. No program in sight. -/
import Derived.Test.YtemcpldipjbleaaMap
namespace Go.Proofs.Ytemcpldipjbleaa
open Go.RowKit

section
variable {P : Program} (w : World) {ops : Array Oper} {rest : List Oper} {o : Oper} {a : Act} {K : Act → World → Prop} {Q : Exit → Act → World → Prop} {E : Prop}
variable {t k e : TypeId} {b : Nat} {es : List (Int × Value)}

theorem run_makeMap0 {P : Program} (t : TypeId) (w : World) : (Instr.makeMap t none).run P w = .ok (.map (some w.heap.size)) (w.alloc (.map #[] 0)) := rfl
theorem wp_mapUpdate (m x v : Operand) (hop : o.op = Op.mapUpdate t m x v) {w' : World} {mv kv vv : Value} (hm : a.eval m = mv) (hx : a.eval x = kv) (hv : a.eval v = vv)
    (hrun : (Instr.mapUpdate t mv kv vv).run P w = .ok () w') (hK : K (a.put o.dst undef) w') : o.wp P a w K Q := by
  unfold Oper.wp
  simp [execOp, hop, hm, hx, hv, hrun, Result.andThen]
  exact hK
theorem wp_add (m x v : Operand) (hop : o.op = Op.mapUpdate t m x v) (ht : P.underlying t = some (.map k e)) (hk : P.underlying k = some (.int .i64))
    (hm : a.eval m = .map (some b)) (h : MapI w b es) (n : Int) (hx : a.eval x = .int .i64 n) (hn : n ∉ es.map Prod.fst) (vv : Value) (hv : a.eval v = vv)
    (hK : ∀ w', MapI w' b (es ++ [(n, vv)]) → Upd [b] w w' → K (a.put o.dst undef) w') : o.wp P a w K Q := by
  obtain ⟨w', hr, h1, h2⟩ := h.add ht hk n hn vv
  exact wp_mapUpdate w m x v hop hm hx hv hr (hK w' h1 h2)
theorem wp_put (m x v : Operand) (hop : o.op = Op.mapUpdate t m x v) (ht : P.underlying t = some (.map k e)) (hk : P.underlying k = some (.int .i64))
    (hm : a.eval m = .map (some b)) (h : MapI w b es) (n : Int) (hx : a.eval x = .int .i64 n) (hn : n ∈ es.map Prod.fst) (vv : Value) (hv : a.eval v = vv)
    (hK : ∀ w', MapI w' b (putI es n vv) → Upd [b] w w' → K (a.put o.dst undef) w') : o.wp P a w K Q := by
  obtain ⟨w', hr, h1, h2⟩ := h.put ht hk n hn vv
  exact wp_mapUpdate w m x v hop hm hx hv hr (hK w' h1 h2)
theorem wpList_add (hgd : o.guard = none) (m x v : Operand) (hop : o.op = Op.mapUpdate t m x v) (ht : P.underlying t = some (.map k e)) (hk : P.underlying k = some (.int .i64))
    (hm : a.eval m = .map (some b)) (h : MapI w b es) (n : Int) (hx : a.eval x = .int .i64 n) (hn : n ∉ es.map Prod.fst) (vv : Value) (hv : a.eval v = vv)
    (hK : ∀ w', MapI w' b (es ++ [(n, vv)]) → Upd [b] w w' → wpList P ops Q rest (a.put o.dst undef) w') : wpList P ops Q (o :: rest) a w :=
  wpList_plain hgd fun _ hK' => wp_add w m x v hop ht hk hm h n hx hn vv hv fun w' h1 h2 => hK' _ _ (hK w' h1 h2)
theorem wpList_put (hgd : o.guard = none) (m x v : Operand) (hop : o.op = Op.mapUpdate t m x v) (ht : P.underlying t = some (.map k e)) (hk : P.underlying k = some (.int .i64))
    (hm : a.eval m = .map (some b)) (h : MapI w b es) (n : Int) (hx : a.eval x = .int .i64 n) (hn : n ∈ es.map Prod.fst) (vv : Value) (hv : a.eval v = vv)
    (hK : ∀ w', MapI w' b (putI es n vv) → Upd [b] w w' → wpList P ops Q rest (a.put o.dst undef) w') : wpList P ops Q (o :: rest) a w :=
  wpList_plain hgd fun _ hK' => wp_put w m x v hop ht hk hm h n hx hn vv hv fun w' h1 h2 => hK' _ _ (hK w' h1 h2)
theorem step_add (hgd : o.guard = none) (m x v : Operand) (hop : o.op = Op.mapUpdate t m x v) (ht : P.underlying t = some (.map k e)) (hk : P.underlying k = some (.int .i64))
    (hm : a.eval m = .map (some b)) (h : MapI w b es) (n : Int) (hx : a.eval x = .int .i64 n) (hn : n ∉ es.map Prod.fst) (vv : Value) (hv : a.eval v = vv)
    (hK : ∀ w', MapI w' b (es ++ [(n, vv)]) → Upd [b] w w' → K (a.put o.dst undef) w') :
    if Region.wanted o (yielded ops a.tmps) = true then Oper.wp P o a w K Q else E := by
  have hw : Region.wanted o (yielded ops a.tmps) = true := by simp [Region.wanted, hgd]
  rw [if_pos hw]
  exact wp_add w m x v hop ht hk hm h n hx hn vv hv hK
theorem step_put (hgd : o.guard = none) (m x v : Operand) (hop : o.op = Op.mapUpdate t m x v) (ht : P.underlying t = some (.map k e)) (hk : P.underlying k = some (.int .i64))
    (hm : a.eval m = .map (some b)) (h : MapI w b es) (n : Int) (hx : a.eval x = .int .i64 n) (hn : n ∈ es.map Prod.fst) (vv : Value) (hv : a.eval v = vv)
    (hK : ∀ w', MapI w' b (putI es n vv) → Upd [b] w w' → K (a.put o.dst undef) w') :
    if Region.wanted o (yielded ops a.tmps) = true then Oper.wp P o a w K Q else E := by
  have hw : Region.wanted o (yielded ops a.tmps) = true := by simp [Region.wanted, hgd]
  rw [if_pos hw]
  exact wp_put w m x v hop ht hk hm h n hx hn vv hv hK

theorem wpList_look (hgd : o.guard = none) (m x : Operand) (c : Bool) (hop : o.op = Op.lookup t m x c) (ht : P.underlying t = some (.map k e)) (hk : P.underlying k = some (.int .i64)) {z : Value} (hz : (zeroValue e).run P w = .ok z w)
    (hm : a.eval m = .map (some b)) (h : MapI w b es) (n : Int) (hx : a.eval x = .int .i64 n)
    (hK : wpList P ops Q rest (a.put o.dst (if c then .tuple #[(lookI es n).getD z, .bool (lookI es n).isSome] else (lookI es n).getD z)) w) : wpList P ops Q (o :: rest) a w := by
  refine wpList_plain hgd fun K' hK' => ?_
  have hr := h.look ht hk hz n c
  unfold Oper.wp
  simp [execOp, hop, hm, hx, hr, Result.andThen]
  exact hK' _ _ hK
theorem wpList_del (hgd : o.guard = none) (m x : Operand) (hop : o.op = Op.call { callee := Callee.builtin Builtin.delete, args := #[m, x], argTypes := #[t, k] }) (ht : P.underlying t = some (.map k e)) (hk : P.underlying k = some (.int .i64))
    (hm : a.eval m = .map (some b)) (h : MapI w b es) (n : Int) (hx : a.eval x = .int .i64 n)
    (hK : ∀ w', MapI w' b (es.filter fun p => !(p.1 == n)) → Upd [b] w w' → wpList P ops Q rest (a.put o.dst (.tuple #[])) w') : wpList P ops Q (o :: rest) a w := by
  refine wpList_plain hgd fun K' hK' => ?_
  obtain ⟨w', hr, h1, h2⟩ := h.del ht hk n o.type
  unfold Oper.wp execOp
  simp only [hop, resolve, invoke, builtin, Sem.run_bind, Sem.run_pure, Result.andThen_ok, List.map_toArray, List.map_cons, List.map_nil, hm, hx, hr]
  exact hK' _ _ (hK w' h1 h2)
theorem wpList_mlen (hgd : o.guard = none) (m : Operand) (hop : o.op = Op.call { callee := Callee.builtin Builtin.len, args := #[m], argTypes := #[t] }) (ht : P.underlying t = some (.map k e))
    (hm : a.eval m = .map (some b)) (h : MapI w b es)
    (hK : wpList P ops Q rest (a.put o.dst (.int .i64 es.length)) w) : wpList P ops Q (o :: rest) a w := by
  refine wpList_plain hgd fun K' hK' => ?_
  have hr := h.size ht o.type
  unfold Oper.wp execOp
  simp only [hop, resolve, invoke, builtin, Sem.run_bind, Sem.run_pure, Result.andThen_ok, List.map_toArray, List.map_cons, List.map_nil, hm, hr]
  exact hK' _ _ hK
end
end Go.Proofs.Ytemcpldipjbleaa
