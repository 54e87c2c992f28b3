/- The ghost walk: append, copy. Over any program. -/
import Derived.Test.YtcbngjpihcemiaaGg
import Derived.Lib.IndexBytes
namespace Go.Proofs.Ytcbngjpihcemiaa
open Go.RowKit

section
variable {P : Program} {w : World}
theorem run_storeRow {t : TypeId} {fz : Nat × Nat} : ∀ (vs : List Value) (g o : Nat) (rs : Array Value) (w : World), w.heap[g]? = some (.cells rs t fz) → FzOk fz rs.size → o + vs.length ≤ rs.size → (∀ v ∈ vs, v.oneCell' = true) →
    ∃ w' rs', (∀ k, k ≤ o → (storeCells ⟨g, o - k, none⟩ vs k).run P w = .ok () w') ∧ w'.heap[g]? = some (.cells rs' t fz) ∧ rs'.size = rs.size ∧ (∀ q, q < o ∨ o + vs.length ≤ q → rs'[q]? = rs[q]?) ∧ (∀ (q : Nat) (v : Value), vs[q]? = some v → rs'[o + q]? = some v) ∧ Frm w w' [g] ∧ w'.heap.size = w.heap.size
  | [], g, o, rs, w, h, _, _, _ => ⟨w, rs, fun k _ => rfl, h, rfl, fun _ _ => rfl, fun q v hq => by simp at hq, Frm.refl _ _, rfl⟩
  | v :: vs, g, o, rs, w, h, hf, hl, h1 => by
    simp only [List.length_cons] at hl
    have hst := run_store1 (P := P) h hf (o := o) (v := v) (by omega) (h1 v (by simp))
    obtain ⟨w2, rs2, e1, e2, e3, e4, e5, e6, e7⟩ := run_storeRow vs g (o + 1) _ (w.setCell ⟨g, o, none⟩ v) (real_set h) (by simpa using hf) (by simp; omega) (fun u hu => h1 u (by simp [hu]))
    have hF : Frm w (w.setCell ⟨g, o, none⟩ v) [g] := (Frm.refl w [g]).put (.inl (by simp)) v
    refine ⟨w2, rs2, fun k hk => ?_, e2, by rw [e3]; simp, fun q hq => ?_, fun q u hq => ?_, hF.trans e6, e7.trans (by simp [World.setCell])⟩
    · have ha : (⟨g, o - k, none⟩ : Addr).add k = ⟨g, o, none⟩ := by
        rw [addr_add]
        congr 1
        omega
      have := e1 (k + 1) (by omega)
      rw [show o + 1 - (k + 1) = o - k by omega] at this
      simp only [storeCells, Sem.run_bind, ha, hst, Result.andThen_ok]
      exact this
    · simp only [List.length_cons] at hq
      rw [e4 q (by omega), Array.getElem?_setIfInBounds_ne (by omega)]
    · cases q with
      | zero =>
        simp at hq
        subst hq
        rw [Nat.add_zero, e4 o (by omega), Array.getElem?_setIfInBounds_self_of_lt (by omega)]
      | succ q =>
        have := e5 q u (by simpa using hq)
        rw [show o + (q + 1) = o + 1 + q by omega]
        exact this
/-- What is appended: so many elements, these cells. -/
def AppX (P : Program) (xt : TypeId) (v : Value) (zv : Value) (size m : Nat) (new : Array Value) (w : World) : Prop :=
  ((P.underlying xt = some .string ∨ ∃ e', P.underlying xt = some (.slice e')) ∧ (Builtin.lenOf v).run P w = .ok m w ∧ ∀ w' : World, w'.heap = w.heap → (Builtin.firstCells size m v).run P w' = .ok new w') ∨
  (∃ k kl, P.underlying xt = some (.int k) ∧ v = .int kl (m : Int) ∧ new = Builtin.zeroCells zv.cells m)
theorem run_app_grow {t xt ty e : TypeId} {inf : TypeInfo} {zv : Value} {base : Option Addr} {n c m : Nat} {v : Value} {old new : Array Value} (ht : P.underlying t = some (.slice e)) (hi : P.info? e = some inf) (hz : inf.zero = some zv) (hs0 : 0 < inf.size)
    (hx : AppX P xt v zv inf.size m new w) (hold : ∀ w' : World, w'.heap = w.heap → (Builtin.firstCells inf.size n (.slice base n c)).run P w' = .ok old w') (hc : c < n + m) (hn : n + m ≤ 9223372036854775807) (hb : (n + m) * inf.bytes ≤ 140737488355328) :
    (Builtin.append_ #[t, xt] ty #[.slice base n c, v]).run P w = .ok (.slice (some ⟨w.heap.size, 0, none⟩) (n + m) (grownCap w (n + m) c e)) (w.drew.alloc (.cells (old ++ new ++ Builtin.zeroCells zv.cells (grownCap w (n + m) c e - (n + m))) e)) := by
  have hroom : ¬ (n + m ≤ c) := by omega
  have hn63 : ¬ (9223372036854775807 < (n : Int) + (m : Int)) := by omega
  have h48' := growslice_fits (need := n + m) (old := c) (bytes := inf.bytes) hc hb
  have h48 : ¬ (281474976710656 < Builtin.nextslicecap (n + m) c * inf.bytes) := by omega
  have ho := hold w.drew rfl
  rcases hx with ⟨hd | ⟨e', hd⟩, hlen, hnew⟩ | ⟨k, kl, hd, rfl, rfl⟩
  iterate 2
    · have hn' := hnew w.drew rfl
      simp [Builtin.append_, run_underlying ht, run_underlying hd, sizeOf, typeInfo, zeroValue, hi, hz, hlen, hroom, hn63, h48, Question.forced, ho, hn', newRow, grownCap]
  · have hw : IntKind.i64.wrap (m : Int) = (m : Int) := by rw [IntKind.wrap_i64]; omega
    have hm0 : ¬ (m : Int) < 0 := by omega
    have hmb' : m * inf.bytes ≤ 281474976710656 := Nat.le_trans (Nat.mul_le_mul_right _ (by omega)) (Nat.le_trans hb (by omega))
    have hmb : ¬ (281474976710656 < (m : Int) * (inf.bytes : Int)) := by
      have h : ((m * inf.bytes : Nat) : Int) ≤ 281474976710656 := by omega
      rw [Int.natCast_mul] at h
      omega
    have h00 : Builtin.zeroCells zv.cells 0 = #[] := by simp [Builtin.zeroCells]
    by_cases h0 : m = 0
    · subst h0
      simp [Builtin.append_, run_underlying ht, run_underlying hd, sizeOf, typeInfo, zeroValue, hi, hz, asInt, asIntOf, IntKind.wrap_i64, Question.forced, ho, newRow, grownCap, h00, show ¬ n ≤ c by omega, show ¬ (281474976710656 < Builtin.nextslicecap n c * inf.bytes) by simpa using h48, show ¬ (9223372036854775807 < (n : Int)) by omega]
    · have hmz : m * inf.size ≠ 0 := Nat.mul_ne_zero h0 (by omega)
      simp [Builtin.append_, run_underlying ht, run_underlying hd, sizeOf, typeInfo, zeroValue, hi, hz, asInt, asIntOf, hw, hm0, hmb, hmz, hroom, hn63, h48, Question.forced, ho, newRow, grownCap]
theorem run_app_room {t xt ty e : TypeId} {inf : TypeInfo} {zv : Value} {a : Addr} {n c m : Nat} {v : Value} {new : Array Value} {w' : World} (ht : P.underlying t = some (.slice e)) (hi : P.info? e = some inf) (hz : inf.zero = some zv) (hs0 : 0 < inf.size)
    (hx : AppX P xt v zv inf.size m new w) (hc : n + m ≤ c) (hn : n + m ≤ 9223372036854775807) (hb : (n + m) * inf.bytes ≤ 140737488355328) (hst : (storeCells (a.add (n * inf.size)) new.toList).run P w = .ok () w') :
    (Builtin.append_ #[t, xt] ty #[.slice (some a) n c, v]).run P w = .ok (.slice (some a) (n + m) c) w' := by
  rcases hx with ⟨hd | ⟨e', hd⟩, hlen, hnew⟩ | ⟨k, kl, hd, rfl, rfl⟩
  iterate 2
    · have hn' := hnew w rfl
      simp [Builtin.append_, run_underlying ht, run_underlying hd, sizeOf, typeInfo, zeroValue, hi, hz, hlen, hc, hn', hst]
  · have hw : IntKind.i64.wrap (m : Int) = (m : Int) := by rw [IntKind.wrap_i64]; omega
    have hm0 : ¬ (m : Int) < 0 := by omega
    have hmb' : m * inf.bytes ≤ 281474976710656 := Nat.le_trans (Nat.mul_le_mul_right _ (by omega)) (Nat.le_trans hb (by omega))
    have hmb : ¬ (281474976710656 < (m : Int) * (inf.bytes : Int)) := by
      have h : ((m * inf.bytes : Nat) : Int) ≤ 281474976710656 := by omega
      rw [Int.natCast_mul] at h
      omega
    have h00 : Builtin.zeroCells zv.cells 0 = #[] := by simp [Builtin.zeroCells]
    by_cases h0 : m = 0
    · subst h0
      rw [h00] at hst
      simp at hst
      simp [Builtin.append_, run_underlying ht, run_underlying hd, sizeOf, typeInfo, zeroValue, hi, asInt, asIntOf, IntKind.wrap_i64, hst, show n ≤ c by omega]
    · have hmz : m * inf.size ≠ 0 := Nat.mul_ne_zero h0 (by omega)
      simp [Builtin.append_, run_underlying ht, run_underlying hd, sizeOf, typeInfo, zeroValue, hi, hz, asInt, asIntOf, hw, hm0, hmb, hmz, hc, hst]
end
/-- What stands to be appended, on the ghost side: so many elements of z cells. -/
inductive GSrc (T : Tab) (env : Env) (H : Hp) (x : Operand) (xt : TypeId) (z : Nat) (zr : List Value) : Nat → List Value → Prop
  | slice {k off m c e z' by_ : Nat} {zr' : List Value} {b : Blk} {i : TyI} (ht : T xt = some i) (hd : i.d = .slice e z' by_ zr') (hx : geval env x = some (.slice (some ⟨k, off, none⟩) m c)) (hb : H.at k = some b) (hn : off + m * z ≤ b.cs.length) : GSrc T env H x xt z zr m ((b.cs.drop off).take (m * z))
  | nil {e z' by_ : Nat} {zr' : List Value} {i : TyI} (ht : T xt = some i) (hd : i.d = .slice e z' by_ zr') (hx : geval env x = some (.slice none 0 0)) : GSrc T env H x xt z zr 0 []
  | str {s : ByteArray} {i : TyI} (hz : z = 1) (ht : T xt = some i) (hd : i.d = .str) (hx : geval env x = some (.string s)) : GSrc T env H x xt z zr s.size (vb s.data.toList)
  | zeros {m : Nat} {k kl : IntKind} {i : TyI} (ht : T xt = some i) (hd : i.d = .int k) (hx : geval env x = some (.int kl (m : Int))) : GSrc T env H x xt z zr m (gmade zr m)
section
variable {P : Program} {T : Tab} {C : Ctx} {o : Oper} {env : Env} {H : Hp} {x y : Operand} {t xt : TypeId} {i : TyI}
theorem run_first0 (size : Nat) (v : Value) (hv : v = .slice none 0 0 ∨ (∃ a c, v = .slice (some a) 0 c)) (w : World) : (Builtin.firstCells size 0 v).run P w = .ok #[] w := by
  rcases hv with rfl | ⟨a, c, rfl⟩ <;> simp [Builtin.firstCells, loadCells, loadCellsFrom]
/-- The first cells of a slice, in all worlds of the same heap. -/
theorem real_first {μ : Ren} {w : World} {k off n c z : Nat} {b : Blk} {v' : Value} (hs : SimH μ H w) (hv : VR μ (.slice (some ⟨k, off, none⟩) n c) v') (hb : H.at k = some b) (hn : off + n * z ≤ b.cs.length) :
    ∃ (a : Addr) (c' : Nat) (l' : List Value), v' = .slice (some a) n c' ∧ VRs μ ((b.cs.drop off).take (n * z)) l' ∧ ∀ w' : World, w'.heap = w.heap → (Builtin.firstCells z n (.slice (some a) n c')).run P w' = .ok l'.toArray w' := by
  cases hv with
  | sl hL hn1 hm hc hu ha =>
    rename_i c' a' L
    obtain ⟨M, l', q1, q2, q3, q4⟩ := hs.run hb off (n * z) hn
    rw [hL] at q1
    injection q1 with q1
    subst q1
    refine ⟨a', c', l', rfl, q2, fun w' hw => ?_⟩
    rcases Nat.eq_zero_or_pos n with h0 | h0
    · subst h0
      have : l' = [] := List.eq_nil_of_length_eq_zero (by omega)
      subst this
      exact run_first0 z _ (.inr ⟨a', c', rfl⟩) w'
    · obtain rfl := ha (by omega)
      refine run_firstCells_some (P := P) w' z n ⟨L.g, L.d + off, none⟩ n c' l' q3 fun j v hj => ?_
      rw [addr_add]
      exact (World.cell?_of_block (by rw [hw])).trans (q4 j v hj)
theorem vb_data (s : ByteArray) : (s.extract 0 s.size).data.map (fun b => Value.int .u8 (b.toNat : Int)) = (vb s.data.toList).toArray := by
  apply Array.toList_inj.1
  rw [Array.toList_map, Lib.extract_to_end]
  simp [vb]
theorem GSrc.real {z m : Nat} {zr news : List Value} (hT : T.ok P) {μ : Ren} {N : Nat} {a : Act} {w : World} (hs : SimH μ H w) (he : ER μ N env a) (h : GSrc T env H x xt z zr m news) (zv : Value) (hz : zv.cells.toList = zr) (hp : ∀ u ∈ zr, plainB u = true) :
    ∃ new' : List Value, VRs μ news new' ∧ (∀ u ∈ news, u.oneCell' = true) ∧ AppX P xt (a.eval x) zv z m new'.toArray w := by
  cases h with
  | slice ht hd hx hb hn =>
    rename_i k off c e z' by_ zr' b i
    obtain ⟨a', c', l', e1, e2, e3⟩ := real_first (P := P) hs (he.eval hx) hb hn
    refine ⟨l', e2, fun u hu => hs.one hb u (List.mem_of_mem_drop (List.mem_of_mem_take hu)), .inl ⟨.inr ⟨e, (Tab.slice hT ht hd).1⟩, by rw [e1]; rfl, by rw [e1]; exact e3⟩⟩
  | nil ht hd hx =>
    have e1 := (he.eval hx).plain_eq rfl
    exact ⟨[], .nil, by simp, .inl ⟨.inr ⟨_, (Tab.slice hT ht hd).1⟩, by rw [e1]; rfl, fun w' _ => by rw [e1]; exact run_first0 z _ (.inl rfl) w'⟩⟩
  | str hz1 ht hd hx =>
    rename_i s i
    have e1 := (he.eval hx).plain_eq rfl
    refine ⟨vb s.data.toList, .plain (vb_plain _), vb_one _, .inl ⟨.inl (Tab.str hT ht hd), by rw [e1]; rfl, fun w' _ => ?_⟩⟩
    rw [e1]
    simp only [Builtin.firstCells, Sem.run_pure, vb_data]
  | zeros ht hd hx =>
    rename_i k kl i
    have e1 := (he.eval hx).plain_eq rfl
    refine ⟨gmade zr m, .plain (fun v hv => hp v (gmade_mem hv)), fun u hu => plain_one (hp u (gmade_mem hu)), .inr ⟨k, kl, Tab.int hT ht hd, e1, ?_⟩⟩
    have := made_is zv zr hz m
    apply Array.toList_inj.1
    rw [← this]
    have hs : zv.cells.size = zr.length := by rw [← hz]; simp
    simp [Builtin.zeroCells, madeCells, hs]
/-- The new row of an append that found no room. -/
theorem GOp.grown {b : Blk} {n m c : Nat} {e z by_ : Nat} {zr old news : List Value} (hT : T.ok P) (ho : o.op = .call { callee := .builtin .append, args := #[x, y], argTypes := #[t, xt] }) (ht : T t = some i) (hd : i.d = .slice e z by_ zr) (hz0 : 0 < z)
    (hb : b = ⟨e, z, old ++ news, true⟩) (hsrc : GSrc T env H y xt z zr m news) (hol : old.length = n * z) (hnl : news.length = m * z) (h1 : ∀ u ∈ old, u.oneCell' = true) (hsz : (n + m) * by_ ≤ 140737488355328) (hn : n + m ≤ 140737488355328) (hc : c < n + m) {base : Option Addr} {μ : Ren} {N : Nat} {a : Act} {w : World} (hs : SimH μ H w) (he : ER μ N env a)
    (hx : a.eval x = .slice base n c) {old' : List Value} (hov : VRs μ old old') (hof : ∀ w' : World, w'.heap = w.heap → (Builtin.firstCells z n (.slice base n c)).run P w' = .ok old'.toArray w') :
    ∃ rv w' L, (execOp a.eval o).run P w = .ok (.value rv) w' ∧ SimH (μ.upd H.length L) (H.push b) w' ∧ VR (μ.upd H.length L) (.slice (some ⟨H.length, 0, none⟩) (n + m) capU) rv ∧ L.g = w.heap.size ∧ Below w.heap.size w w' := by
  obtain ⟨q1, ti, q2, q3, q4, q5, zv, q6, q7, q8⟩ := Tab.slice hT ht hd
  obtain ⟨new', e1, e2, e3⟩ := hsrc.real hT hs he zv q7 q8
  subst q3
  subst q4
  have hr := run_app_grow (P := P) (ty := o.type) q1 q2 q6 hz0 e3 hof hc (by omega) hsz
  have hge := grownCap_ge w (n + m) c e
  have hle := grownCap_le_maxLen w (n + m) c e (by unfold maxLen; omega)
  have hol' : old'.length = n * ti.size := by rw [← hov.length]; exact hol
  have hnl' : new'.length = m * ti.size := by rw [← e1.length]; exact hnl
  have hzz : (Builtin.zeroCells zv.cells (grownCap w (n + m) c e - (n + m))).size = (grownCap w (n + m) c e - (n + m)) * ti.size := by
    have : zv.cells.size = ti.size := by rw [q5, ← q7]; simp
    simp [Builtin.zeroCells, this]
  have htot : (old'.toArray ++ new'.toArray ++ Builtin.zeroCells zv.cells (grownCap w (n + m) c e - (n + m))).size = grownCap w (n + m) c e * ti.size := by
    rw [Array.size_append, Array.size_append, hzz, List.size_toArray, List.size_toArray, hol', hnl', ← Nat.add_mul, ← Nat.add_mul]
    congr 1
    omega
  refine ⟨_, w.drew.alloc (.cells (old'.toArray ++ new'.toArray ++ Builtin.zeroCells zv.cells (grownCap w (n + m) c e - (n + m))) e), ⟨w.heap.size, 0, grownCap w (n + m) c e * ti.size, ti.size⟩, ?_, ?_, .sl (c' := grownCap w (n + m) c e) (a := ⟨w.heap.size, 0, none⟩) (Ren.upd_eq _ _ _) hge hle (fun h => by omega) (fun _ => by simp) (fun _ => rfl), rfl, ?_⟩
  · simp only [execOp, ho, resolve, invoke, builtin, Sem.run_bind, Sem.run_pure, Result.andThen_ok, List.map_toArray, List.map_cons, List.map_nil, hx, hr]
  · subst hb
    refine hs.add (by simp) _ _ _ e (0, 0) rfl (heap_alloc_new w.drew _) (.inl rfl) htot (fun j v hv => ?_) (fun u hu => ?_) (fun i c M _ hM => ?_)
    · have hvr := hov.append e1
      obtain ⟨v', h2, h3⟩ := hvr.get j v hv
      refine ⟨v', ?_, h3.mono (hs.fresh _)⟩
      have hj : j < (old' ++ new').length := (List.getElem?_eq_some_iff.1 h2).1
      have e9 : old'.toArray ++ new'.toArray = (old' ++ new').toArray := by simp
      rw [Nat.zero_add, e9, Array.getElem?_append_left (by simpa using hj), List.getElem?_toArray]
      exact h2
    · rcases List.mem_append.1 hu with hu | hu
      · exact h1 u hu
      · exact e2 u hu
    · have := (hs.len i M hM).2
      exact ⟨by simp only; omega, heap_alloc_old w.drew _ this⟩
  · exact below_al (below_drN (Below.refl w.heap.size w) 1) _
/-- Append to nothing. -/
theorem gop_app_nil {m e z by_ : Nat} {zr news : List Value} (hT : T.ok P) (ho : o.op = .call { callee := .builtin .append, args := #[x, y], argTypes := #[t, xt] }) (ht : T t = some i) (hd : i.d = .slice e z by_ zr) (hz0 : 0 < z) (hx : geval env x = some (.slice none 0 0))
    (hsrc : GSrc T env H y xt z zr m news) (hnl : news.length = m * z) (hm : 0 < m) (hsz : m * by_ ≤ 140737488355328) (hn : m ≤ 140737488355328) :
    GOp P C o env H (fun u H' => u = .slice (some ⟨H.length, 0, none⟩) m capU ∧ H' = H.push ⟨e, z, news, true⟩) := fun N w0 Fr μ0 μ a w K Q hs he hk => by
  have e1 := (he.eval hx).plain_eq rfl
  obtain ⟨rv, w', L, f1, f2, f3, f4, f5⟩ := GOp.grown (n := 0) (c := 0) (old := []) (old' := []) hT ho ht hd hz0 rfl hsrc (by simp) hnl (by simp) (by simpa using hsz) (by omega) (by omega) hs.h he e1 .nil (fun w' _ => run_first0 z _ (.inl rfl) w')
  simp only [Nat.zero_add, List.nil_append] at f2 f3
  unfold Oper.wp
  rw [f1]
  exact hk _ rv _ w' _ ⟨rfl, rfl⟩ (hs.push f2 (hs.frm.tr (Frm.of_below f5 []) (by simp)) (.inr (by rw [f4]; exact hs.frm.size))) (hs.h.fresh _) f3
/-- Append to a slice that is known to have no room: a new row. -/
theorem gop_app_full {j off n c m e z by_ : Nat} {b : Blk} {zr news : List Value} (hT : T.ok P) (ho : o.op = .call { callee := .builtin .append, args := #[x, y], argTypes := #[t, xt] }) (ht : T t = some i) (hd : i.d = .slice e z by_ zr) (hz0 : 0 < z) (hx : geval env x = some (.slice (some ⟨j, off, none⟩) n c)) (hc : c < capU) (hcm : c < n + m) (hb : H.at j = some b) (hol : off + n * z ≤ b.cs.length)
    (hsrc : GSrc T env H y xt z zr m news) (hnl : news.length = m * z) (hsz : (n + m) * by_ ≤ 140737488355328) (hn : n + m ≤ 140737488355328) :
    GOp P C o env H (fun u H' => u = .slice (some ⟨H.length, 0, none⟩) (n + m) capU ∧ H' = H.push ⟨e, z, (b.cs.drop off).take (n * z) ++ news, true⟩) := fun N w0 Fr μ0 μ a w K Q hs he hk => by
  have hv := he.eval hx
  obtain ⟨a', c', l', e1, e2, e3⟩ := real_first (P := P) hs.h hv hb hol
  have hcc : c' = c := by
    rw [e1] at hv
    cases hv with
    | sl _ _ _ hcc _ _ => exact hcc hc
  subst hcc
  obtain ⟨rv, w', L, f1, f2, f3, f4, f5⟩ := GOp.grown hT ho ht hd hz0 rfl hsrc (old := (b.cs.drop off).take (n * z)) (by rw [List.length_take, List.length_drop]; omega) hnl (fun u hu => hs.h.one hb u (List.mem_of_mem_drop (List.mem_of_mem_take hu))) hsz hn hcm hs.h he e1 e2 e3
  unfold Oper.wp
  rw [f1]
  exact hk _ rv _ w' _ ⟨rfl, rfl⟩ (hs.push f2 (hs.frm.tr (Frm.of_below f5 []) (by simp)) (.inr (by rw [f4]; exact hs.frm.size))) (hs.h.fresh _) f3
end
end Go.Proofs.Ytcbngjpihcemiaa
