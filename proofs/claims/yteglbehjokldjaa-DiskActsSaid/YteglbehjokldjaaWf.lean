/- Words for memory, more: blocks known whole behind a make and an append. Over any program. -/
import Derived.Test.YteglbehjokldjaaWe
import Derived.Laws.OwnMore
namespace Go.Proofs.Yteglbehjokldjaa
open Go.RowKit

section
variable {P : Program} (w : World)
theorem wpList_make_blk {ops : Array Oper} {rest : List Oper} {o : Oper} {a : Act} {Q : Exit → Act → World → Prop} (hgd : o.guard = none) (lop cop : Operand) (t : TypeId) (ho : o.op = .makeSlice t lop cop)
    (e : TypeId) (z : Value) (size bytes : Nat) (he : Elm P t e z size bytes) (kl kc : IntKind) (L C : Int) (l c : Nat) (hL : a.eval lop = .int kl L) (hC : a.eval cop = .int kc C) (hLl : L = (l : Int)) (hCc : C = (c : Int))
    (hlc : l ≤ c) (hb : bytes * c ≤ 281474976710656) (h63 : c ≤ 9223372036854775807)
    (h : wpList P ops Q rest (a.put o.dst (.slice (some ⟨w.heap.size, 0, none⟩) l c)) (w.alloc (.cells (madeCells z.cells (c * size)) e))) : wpList P ops Q (o :: rest) a w := by
  obtain ⟨ht, ⟨i, hi, hz, hsize, hby⟩, hzs, hsz⟩ := he
  subst hsize
  subst hby
  subst hLl
  subst hCc
  have hb' : (i.bytes : Int) * (c : Int) ≤ 281474976710656 := by
    have h : ((i.bytes * c : Nat) : Int) ≤ 281474976710656 := by omega
    rwa [Int.natCast_mul] at h
  have hr := run_make (P := P) w t e i z ht hi hz kl kc l c (by omega) (by omega) hb' (by omega)
  simp only [Int.toNat_natCast] at hr
  refine wpList_plain hgd fun K hK => ?_
  unfold Oper.wp
  simp [execOp, ho, hL, hC, hr, Result.andThen]
  exact hK _ _ h

theorem wpList_make_cs {ops : Array Oper} {rest : List Oper} {o : Oper} {a : Act} {Q : Exit → Act → World → Prop} (hgd : o.guard = none) (lop cop : Operand) (t : TypeId) (ho : o.op = .makeSlice t lop cop)
    (e : TypeId) (z : Value) (size bytes : Nat) (he : Elm P t e z size bytes) (kl kc : IntKind) (L C : Int) (l c : Nat) (hL : a.eval lop = .int kl L) (hC : a.eval cop = .int kc C) (hLl : L = (l : Int)) (hCc : C = (c : Int))
    (hlc : l ≤ c) (hb : bytes * c ≤ 281474976710656) (h63 : c ≤ 9223372036854775807) (cs : Array Value) (hcs : madeCells z.cells (c * size) = cs)
    (h : wpList P ops Q rest (a.put o.dst (.slice (some ⟨w.heap.size, 0, none⟩) l c)) (w.alloc (.cells cs e))) : wpList P ops Q (o :: rest) a w :=
  wpList_make_blk w hgd lop cop t ho e z size bytes he kl kc L C l c hL hC hLl hCc hlc hb h63 (by rw [hcs]; exact h)

theorem wpList_append_blk {ops : Array Oper} {rest : List Oper} {o : Oper} {a : Act} {Q : Exit → Act → World → Prop} (hgd : o.guard = none) (s x : Operand) (t : TypeId)
    (ho : o.op = .call { callee := .builtin .append, args := #[s, x], argTypes := #[t, t] })
    (e : TypeId) (z : Value) (size bytes : Nat) (he : Elm P t e z size bytes)
    (g n cap : Nat) (cur : Array Value) (hs : a.eval s = .slice (some ⟨g, 0, none⟩) n cap) (hg : Bk w g e cur)
    (B : Nat) (A : Option Addr) (m c : Nat) (news : List Value) (hx : a.eval x = .slice A m c) (hl : news.length = m * size) (hr : Rd w B A news) (h1 : ∀ u ∈ news, u.oneCell' = true)
    (hroom : n + m ≤ cap) (hfit : n * size + news.length ≤ cur.size)
    (h : ∀ w', Bk w' g e (cur.toList.take (n * size) ++ news ++ cur.toList.drop (n * size + news.length)).toArray → Frm w w' [g] → w'.heap.size = w.heap.size → wpList P ops Q rest (a.put o.dst (.slice (some ⟨g, 0, none⟩) (n + m) cap)) w') : wpList P ops Q (o :: rest) a w := by
  obtain ⟨ht, ⟨i, hi, hz, hsize, hby⟩, hzs, hsz⟩ := he
  subst hsize
  rcases Nat.eq_zero_or_pos m with h0 | hm
  · subst h0
    obtain rfl : news = [] := List.eq_nil_of_length_eq_zero (by simpa using hl)
    have hrun : (Builtin.append_ #[t, t] o.type #[.slice (some ⟨g, 0, none⟩) n cap, .slice A 0 c]).run P w = .ok (.slice (some ⟨g, 0, none⟩) n cap) w := by
      have hn : n ≤ cap := by omega
      cases A <;> simp [Builtin.append_, run_underlying ht, sizeOf, typeInfo, hi, Builtin.lenOf, Builtin.firstCells, hn, storeCells, loadCells, loadCellsFrom]
    refine wpList_plain hgd fun K hK => ?_
    unfold Oper.wp execOp
    simp only [ho, resolve, invoke, builtin, Sem.run_bind, Sem.run_pure, Result.andThen_ok, List.map_toArray, List.map_cons, List.map_nil, hs, hx, hrun]
    refine hK _ _ (h w ?_ (Frm.refl _ _) rfl)
    simpa using hg
  have hnl : 0 < news.length := by rw [hl]; exact Nat.mul_pos hm hsz
  obtain ⟨b, off, rfl, _, hcells⟩ := hr.at_ hnl
  have hc : ∀ j u, news[j]? = some u → w.cell? ((⟨b, off, none⟩ : Addr).add j) = some u := fun j u hu => by
    rw [Addr.add_lit]
    exact hcells j u hu
  have hrun := run_append_room (P := P) w t o.type e i ht hi g n cap cur hg ⟨b, off, none⟩ m c news hl hc h1 hroom hfit
  refine wpList_plain hgd fun K hK => ?_
  unfold Oper.wp execOp
  simp only [ho, resolve, invoke, builtin, Sem.run_bind, Sem.run_pure, Result.andThen_ok, List.map_toArray, List.map_cons, List.map_nil, hs, hx, hrun]
  exact hK _ _ (h _ (setRow_heap w g cur _ e _ hg) ⟨rfl, rfl, rfl, by simp, fun k _ hk => setRow_other w g k _ (fun e => hk (by simp [e]))⟩ (by simp))
end
theorem made_one (z : Value) (n : Nat) : (madeCells #[z] n) = (List.replicate n z).toArray := by
  rw [← toList_madeCells_one z n, Array.toArray_toList]
theorem Rd.of_bk {w : World} {g : Nat} {t : TypeId} {cs : Array Value} (h : Bk w g t cs) (off : Nat) (xs : List Value) (hx : ∀ j u, xs[j]? = some u → cs[off + j]? = some u) : Rd w w.heap.size (some ⟨g, off, none⟩) xs :=
  fun j u hu => ⟨g, off, rfl, h.lt, by rw [h.cell]; exact hx j u hu⟩
theorem Rd.of_bk_app {w : World} {g : Nat} {t : TypeId} {xs ys : List Value} (h : Bk w g t (xs ++ ys).toArray) : Rd w w.heap.size (some ⟨g, 0, none⟩) xs :=
  Rd.of_bk h 0 xs fun j u hu => by
    obtain ⟨hj, rfl⟩ := List.getElem?_eq_some_iff.1 hu
    rw [Nat.zero_add, List.getElem?_toArray, List.getElem?_append_left hj]
    exact List.getElem?_eq_getElem hj
theorem Rd.of_bk_mid {w : World} {g : Nat} {t : TypeId} {xs ys zs : List Value} (h : Bk w g t (xs ++ ys ++ zs).toArray) : Rd w w.heap.size (some ⟨g, xs.length, none⟩) ys :=
  Rd.of_bk h xs.length ys fun j u hu => by
    obtain ⟨hj, rfl⟩ := List.getElem?_eq_some_iff.1 hu
    rw [List.getElem?_toArray, List.append_assoc, List.getElem?_append_right (by omega), Nat.add_sub_cancel_left, List.getElem?_append_left hj]
    exact List.getElem?_eq_getElem hj
theorem idx_of (x m : Int) (h0 : 0 < m) (hm : m ≤ 4611686018427387904) : ∃ i : Nat, (i : Int) < m ∧ wrap64 ((IntKind.u64.wrap x).tmod m) = (i : Int) := by
  have hx : 0 ≤ IntKind.u64.wrap x := by rw [IntKind.wrap_u64]; exact Int.emod_nonneg _ (by omega)
  rw [Int.tmod_eq_emod_of_nonneg hx]
  have h1 := Int.emod_nonneg (IntKind.u64.wrap x) (show m ≠ 0 by omega)
  have h2 := Int.emod_lt_of_pos (IntKind.u64.wrap x) h0
  refine ⟨(IntKind.u64.wrap x % m).toNat, by omega, ?_⟩
  rw [Int.toNat_of_nonneg h1]
  exact IntWalk.wrap64_in _ ⟨by omega, by omega⟩
end Go.Proofs.Yteglbehjokldjaa
