/- The ghost walk: operations that write, or make. Over any program. -/
import Derived.Test.YtcbngjpihcemiaaGf
namespace Go.Proofs.Ytcbngjpihcemiaa
open Go.RowKit

theorem plain_one {v : Value} (h : plainB v = true) : v.oneCell' = true := by
  unfold plainB at h
  split at h <;> first | rfl | exact absurd h Bool.false_ne_true
theorem one_agg {l : List Value} (h : l.all (·.oneCell') = true) : ∀ v ∈ l, v.oneCell' = true := by simpa [List.all_eq_true] using h
/-- So many zero values, one behind the other. -/
def gmade (zr : List Value) (c : Nat) : List Value := (List.replicate c zr).flatten
theorem gmade_one (v : Value) (c : Nat) : gmade [v] c = List.replicate c v := by
  unfold gmade
  induction c with
  | zero => rfl
  | succ c ih => rw [List.replicate_succ, List.flatten_cons, ih]; rfl
@[simp] theorem gmade_len (zr : List Value) (c : Nat) : (gmade zr c).length = c * zr.length := by
  unfold gmade
  induction c with
  | zero => simp
  | succ c ih => rw [List.replicate_succ, List.flatten_cons, List.length_append, ih, Nat.add_mul]; omega
theorem gmade_mem {zr : List Value} {c : Nat} {v : Value} (h : v ∈ gmade zr c) : v ∈ zr := by
  unfold gmade at h
  rw [List.mem_flatten] at h
  obtain ⟨l, h1, h2⟩ := h
  rw [List.eq_of_mem_replicate h1] at h2
  exact h2
theorem gmade_get (zr : List Value) : ∀ (c j : Nat), j < c * zr.length → (gmade zr c)[j]? = zr[j % zr.length]? := by
  intro c
  induction c with
  | zero => intro j h; simp at h
  | succ c ih =>
    intro j h
    have e : gmade zr (c + 1) = zr ++ gmade zr c := by simp [gmade, List.replicate_succ]
    rw [e]
    rcases Nat.lt_or_ge j zr.length with h1 | h1
    · rw [List.getElem?_append_left h1, Nat.mod_eq_of_lt h1]
    · rw [List.getElem?_append_right h1, ih _ (by rw [Nat.add_mul] at h; omega), Nat.mod_eq_sub_mod h1]
theorem made_is (z : Value) (zr : List Value) (hz : z.cells.toList = zr) (c : Nat) : (madeCells z.cells (c * zr.length)).toList = gmade zr c := by
  apply List.ext_getElem?
  intro j
  rcases Nat.lt_or_ge j (c * zr.length) with h | h
  · rw [gmade_get zr c j h]
    have hp : 0 < zr.length := by
      rcases Nat.eq_zero_or_pos zr.length with h0 | h0
      · rw [h0] at h; simp at h
      · exact h0
    have hs : z.cells.size = zr.length := by rw [← hz]; simp
    have hlt : j % z.cells.size < z.cells.size := by rw [hs]; exact Nat.mod_lt _ hp
    have e : zr[j % zr.length]? = some (z.cells[j % z.cells.size]'hlt) := by
      rw [← hs, ← hz]
      simp [Array.getElem?_eq_getElem hlt]
    rw [e]
    simp [madeCells, h, getElem!_pos z.cells (j % z.cells.size) hlt]
  · rw [List.getElem?_eq_none (by simpa [madeCells] using h), List.getElem?_eq_none (by rw [gmade_len]; exact h)]
section
variable {P : Program} {T : Tab} {C : Ctx} {o : Oper} {env : Env} {H : Hp} {x y : Operand} {t : TypeId} {i : TyI}
/-- A new block. -/
theorem GOp.new {b : Blk} {v : Value} (h : ∀ μ N a w, SimH μ H w → ER μ N env a → ∃ rs t rv, VRs μ b.cs rs ∧ (execOp a.eval o).run P w = .ok (.value rv) (w.alloc (.cells rs.toArray t)) ∧ VR (μ.upd H.length ⟨w.heap.size, 0, rs.length, b.z⟩) v rv)
    (h1 : ∀ u ∈ b.cs, u.oneCell' = true) : GOp P C o env H (fun u H' => u = v ∧ H' = H.push b) := fun N w0 Fr μ0 μ a w K Q hs he hk => by
  obtain ⟨rs, t, rv, e1, e2, e3⟩ := h μ N a w hs.h he
  unfold Oper.wp
  rw [e2]
  exact hk v rv _ _ _ ⟨rfl, rfl⟩ (hs.push (hs.h.new b rs t e1 h1) (hs.frm.alloc _) (.inr hs.frm.size)) (hs.h.fresh _) e3
theorem gop_alloc {e : TypeId} (hT : T.ok P) (ho : o.op = .alloc e) (ht : T e = some i) (hz : i.zero ≠ []) : GOp P C o env H (fun u H' => u = .pointer (some ⟨H.length, 0, none⟩) ∧ H' = H.push ⟨e, 1, i.zero, true⟩) := by
  obtain ⟨ti, q1, q2, q3, q4⟩ := Tab.size hT ht
  obtain ⟨z, q5, q6, q7⟩ := q4 hz
  refine GOp.new (fun μ N a w hs he => ⟨i.zero, e, _, .plain q7, ?_, .ptr (L := ⟨w.heap.size, 0, i.zero.length, 1⟩) (Ren.upd_eq _ _ _)⟩) (fun u hu => plain_one (q7 u hu))
  have e : z.cells = i.zero.toArray := by rw [← q6]
  simp [execOp, ho, Instr.alloc, zeroValue, typeInfo, q1, q5, newVar, newRow, newObj, Sem.run, e]
theorem gop_box {e : TypeId} {v : Value} (ho : o.op = .box e x) (hx : geval env x = some v) (h1 : v.cells.toList.all (·.oneCell') = true) : GOp P C o env H (fun u H' => u = .pointer (some ⟨H.length, 0, none⟩) ∧ H' = H.push ⟨e, 1, v.cells.toList, true⟩) := by
  refine GOp.new (fun μ N a w hs he => ⟨(a.eval x).cells.toList, e, _, (he.eval hx).cells, ?_, .ptr (L := ⟨w.heap.size, 0, (a.eval x).cells.toList.length, 1⟩) (Ren.upd_eq _ _ _)⟩) (one_agg h1)
  simp [execOp, ho, Instr.box, newVar, newRow, newObj, Sem.run]
theorem gop_make {e z by_ l c : Nat} {zr : List Value} {kl kc : IntKind} (hT : T.ok P) (ho : o.op = .makeSlice t x y) (ht : T t = some i) (hd : i.d = .slice e z by_ zr) (hx : geval env x = some (.int kl (l : Int))) (hy : geval env y = some (.int kc (c : Int))) (hlc : l ≤ c) (hb : by_ * c ≤ 281474976710656) (h63 : c ≤ maxLen) :
    GOp P C o env H (fun u H' => u = .slice (some ⟨H.length, 0, none⟩) l c ∧ H' = H.push ⟨e, z, gmade zr c, true⟩) := by
  obtain ⟨q1, ti, q2, q3, q4, q5, zv, q6, q7, q8⟩ := Tab.slice hT ht hd
  refine GOp.new (fun μ N a w hs he => ⟨gmade zr c, e, _, .plain (fun v hv => q8 v (gmade_mem hv)), ?_, .sl (L := ⟨w.heap.size, 0, (gmade zr c).length, z⟩) (c' := c) (a := ⟨w.heap.size, 0, none⟩) (Ren.upd_eq _ _ _) hlc h63 (fun _ => rfl) (fun h => ?_) (fun _ => rfl)⟩) (fun u hu => plain_one (q8 u (gmade_mem hu)))
  · have hL := (he.eval hx).plain_eq rfl
    have hC := (he.eval hy).plain_eq rfl
    subst q3
    subst q4
    have hb' : (ti.bytes : Int) * (c : Int) ≤ 281474976710656 := by
      have h : ((ti.bytes * c : Nat) : Int) ≤ 281474976710656 := by omega
      rwa [Int.natCast_mul] at h
    have hr := run_make (P := P) w t e ti zv q1 q2 q6 kl kc l c (by omega) (by omega) hb' (by unfold maxLen at h63; omega)
    simp only [Int.toNat_natCast] at hr
    have em : madeCells zv.cells (c * ti.size) = (gmade zr c).toArray := by
      rw [← made_is zv zr q7 c, ← q5]
    rw [em] at hr
    simp [execOp, ho, hL, hC, hr]
  · unfold capU at h
    unfold maxLen at h63
    omega
/-- A store of one cell. -/
theorem gop_store1 {j off : Nat} {b : Blk} {v : Value} (hT : T.ok P) (ho : o.op = .store t x y) (ht : T t = some i) (hsz : i.size = 1) (hx : geval env x = some (.pointer (some ⟨j, off, none⟩))) (hy : geval env y = some v) (h1 : v.oneCell' = true) (hb : H.at j = some b) (hrw : b.rw = true) (hoff : off < b.cs.length) (hm : C.may j) :
    GOp P C o env H (fun u H' => u = undef ∧ H' = H.put j { b with cs := b.cs.set off v }) := fun N w0 Fr μ0 μ a w K Q hs he hk => by
  obtain ⟨L, _, _, _, q1, _⟩ := hs.h.dom j b hb
  have hv := he.eval hy
  have hcs : v.cells = #[v] := by cases v <;> first | rfl | cases h1
  have hcs' : (a.eval y).cells = #[a.eval y] := by
    have := hv.one h1
    generalize a.eval y = r at this
    cases r <;> first | rfl | cases this
  obtain ⟨w', e1, e2, e3, e4⟩ := hs.h.store (P := P) hb hrw (vs := [v]) (vs' := [a.eval y]) (off := off) (by simp; omega) (.cons hv .nil) (by simpa using h1) q1
  have hp := (he.eval hx).addr q1
  obtain ⟨ti, q2, q3, _⟩ := Tab.size hT ht
  have hrun : (execOp a.eval o).run P w = .ok .skip w' := by
    simp [execOp, ho, hp, Instr.storeAt, Instr.sureAddr, storeVar, hcs', run_size q2, q3, hsz, e1]
  have esp : splice b.cs off [v] = b.cs.set off v := by
    rw [← gsets_splice [v] b.cs off (by simp; omega)]
    rfl
  rw [esp] at e2
  unfold Oper.wp
  rw [hrun]
  exact hk undef undef _ w' μ ⟨rfl, rfl⟩ (hs.put q1 hm e2 e3 Hp.len_put) (Ext'.refl μ) (.tuple .nil)
theorem gop_storeN {j off : Nat} {b : Blk} {cs : Array Value} (hT : T.ok P) (ho : o.op = .store t x y) (ht : T t = some i) (hsz : i.size = cs.size) (hx : geval env x = some (.pointer (some ⟨j, off, none⟩))) (hy : geval env y = some (.agg cs)) (h1 : cs.toList.all (·.oneCell') = true) (hb : H.at j = some b) (hrw : b.rw = true) (hoff : off + cs.size ≤ b.cs.length) (hm : C.may j) :
    GOp P C o env H (fun u H' => u = undef ∧ H' = H.put j { b with cs := splice b.cs off cs.toList }) := fun N w0 Fr μ0 μ a w K Q hs he hk => by
  obtain ⟨L, _, _, _, q1, _⟩ := hs.h.dom j b hb
  have hv := he.eval hy
  generalize hr : a.eval y = r at hv
  cases hv with
  | agg hvs =>
    rename_i cs'
    obtain ⟨w', e1, e2, e3, e4⟩ := hs.h.store (P := P) hb hrw (vs := cs.toList) (vs' := cs'.toList) (off := off) (by simpa using hoff) hvs (one_agg h1) q1
    have hp := (he.eval hx).addr q1
    obtain ⟨ti, q2, q3, _⟩ := Tab.size hT ht
    have hsz' : cs'.size = cs.size := by simpa using hvs.length.symm
    have hrun : (execOp a.eval o).run P w = .ok .skip w' := by
      simp [execOp, ho, hp, hr, Instr.storeAt, Instr.sureAddr, storeVar, Value.cells, run_size q2, q3, hsz, hsz', e1]
    unfold Oper.wp
    rw [hrun]
    exact hk undef undef _ w' μ ⟨rfl, rfl⟩ (hs.put q1 hm e2 e3 Hp.len_put) (Ext'.refl μ) (.tuple .nil)
end
end Go.Proofs.Ytcbngjpihcemiaa
