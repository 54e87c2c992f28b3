/- Words for memory, more: a copy of bytes by 'append([]byte{}, b...)'; the shape of what is owned. -/
import Derived.Test.YtcbngjpihcemiaaWd
namespace Go.Proofs.Ytcbngjpihcemiaa
open Go.RowKit

theorem own_shape {w : World} {base size n : Nat} {e : TypeId} {v : Value} {xs : List Value} (h : w.ownsRow base e size v n xs) (hn : n ≤ maxLen) :
    ∃ A c, v = .slice A n c ∧ n ≤ c ∧ c ≤ maxLen ∧ (A = none → n = 0 ∧ c = 0) ∧ Rd w w.heap.size A xs := by
  have h2 := h.2
  rcases h2 with ⟨rfl, rfl⟩ | ⟨g, cap, cur, rfl, _, _, hn, hm, _⟩
  · exact ⟨none, 0, rfl, Nat.le_refl _, hn, fun _ => ⟨rfl, rfl⟩, Rd.of_own h⟩
  · exact ⟨_, cap, rfl, hn, hm, (fun h => by cases h), Rd.of_own h⟩

theorem app_shape {w : World} {base size n : Nat} {e : TypeId} {v : Value} {xs : List Value} (h : App w base e size v n xs) (hn : n ≤ maxLen) :
    ∃ A c, v = .slice A n c ∧ n ≤ c ∧ c ≤ maxLen ∧ (A = none → n = 0) ∧ Rd w w.heap.size A xs := by
  rcases h with h | ⟨_, A, rfl, hA, hr⟩
  · obtain ⟨A, c, h1, h2, h3, h4, h5⟩ := own_shape h hn
    exact ⟨A, c, h1, h2, h3, fun h => (h4 h).1, h5⟩
  · exact ⟨A, n, rfl, Nat.le_refl _, hn, hA, hr⟩

/-- What a copy leaves. -/
structure Cpy (w w' : World) (e : TypeId) (A : Option Addr) (n c : Nat) (l : List UInt8) : Prop where
  own : w'.ownsRow w.heap.size e 1 (.slice A n c) n (vb l)
  cap : n ≤ c
  max : c ≤ maxLen
  nil : A = none → n = 0 ∧ c = 0
  rd : Rd w' w'.heap.size A (vb l)
  below : Below w.heap.size w w'

section
variable {P : Program} (w : World)
theorem wpList_copy_bytes {ops : Array Oper} {rest : List Oper} {o : Oper} {a : Act} {Q : Exit → Act → World → Prop} (hgd : o.guard = none) (s x : Operand) (t : TypeId)
    (ho : o.op = .call { callee := .builtin .append, args := #[s, x], argTypes := #[t, t] })
    (e : TypeId) (z : Value) (he : Elm P t e z 1 1) (hs : a.eval s = .slice (some ⟨w.heap.size, 0, none⟩) 0 0)
    (A : Option Addr) (m c : Nat) (l : List UInt8) (hx : a.eval x = .slice A m c) (hm : l.length = m) (hr : Rd w w.heap.size A (vb l)) (hsz : m ≤ 140737488355328)
    (h : ∀ A' c' w', Cpy w w' e A' m c' l → wpList P ops Q rest (a.put o.dst (.slice A' m c')) w') :
    wpList P ops Q (o :: rest) a (w.alloc (.cells #[] e)) := by
  have hown : (w.alloc (.cells #[] e)).ownsRow w.heap.size e 1 (.slice (some ⟨w.heap.size, 0, none⟩) 0 0) 0 [] := World.ownsRow_made w #[] 0 (Nat.le_refl _) (by simp [maxLen]) rfl
  refine wpList_append_app _ hgd s x t ho w.heap.size e z 1 1 he _ 0 [] hs (.inl hown) _ A m c (vb l) hx (by rw [vb_length]; omega) (hr.alloc_ _) (vb_one _) (by simp only [maxLen]; omega) (by omega) (by simp) fun v' w' hA => ?_
  have ho' : w'.ownsRow w.heap.size e 1 v' m (vb l) := by simpa using hA.own (.inr hown)
  obtain ⟨A', c', rfl, h1, h2, h3, h4⟩ := own_shape ho' (by simp only [maxLen]; omega)
  exact h A' c' w' ⟨ho', h1, h2, h3, h4, (below_al (Below.refl _ _) _).trans hA.below⟩
end
theorem own_prefix {w : World} {base size n m cap g : Nat} {e : TypeId} {xs news : List Value} (h : w.ownsRow base e size (.slice (some ⟨g, 0, none⟩) (n + m) cap) (n + m) (xs ++ news)) (hl : xs.length = n * size) :
    w.ownsRow base e size (.slice (some ⟨g, 0, none⟩) n cap) n xs := by
  rcases h.2 with ⟨h', _⟩ | ⟨g', cap', cur, h', hb, hg, hnc, hcm, hcs, htake⟩
  · simp at h'
  · simp only [Value.slice.injEq, Option.some.injEq, Addr.mk.injEq, and_true, true_and] at h'
    obtain ⟨rfl, rfl⟩ := h'
    refine ⟨hl, .inr ⟨g, cap, cur, rfl, hb, hg, by omega, hcm, hcs, ?_⟩⟩
    have h2 : (cur.toList.take ((n + m) * size)).take (n * size) = (xs ++ news).take (n * size) := by rw [htake]
    rw [List.take_take, Nat.min_eq_left (Nat.mul_le_mul_right _ (by omega)), ← hl, List.take_left] at h2
    rw [← hl]
    exact h2
/-- What an append to one's own row leaves: the new row, and the elder one. -/
structure ApdK (w w' : World) (base : Nat) (e : TypeId) (size g n cap m : Nat) (v' : Value) (xs news : List Value) : Prop where
  own : w'.ownsRow base e size v' (n + m) (xs ++ news)
  old : w'.ownsRow base e size (.slice (some ⟨g, 0, none⟩) n cap) n xs
  grown : w.grownBy w' (some g)
  below : Below base w w'
section
variable {P : Program} (w : World)
theorem wp_append_keep {o : Oper} {a : Act} {K : Act → World → Prop} {Q : Exit → Act → World → Prop} (s x : Operand) (t : TypeId)
    (ho : o.op = .call { callee := .builtin .append, args := #[s, x], argTypes := #[t, t] })
    (base : Nat) (e : TypeId) (z : Value) (size bytes : Nat) (he : Elm P t e z size bytes)
    (g n cap : Nat) (xs : List Value) (hs : a.eval s = .slice (some ⟨g, 0, none⟩) n cap) (hown : w.ownsRow base e size (.slice (some ⟨g, 0, none⟩) n cap) n xs)
    (B : Nat) (A : Option Addr) (m c : Nat) (news : List Value) (hx : a.eval x = .slice A m c) (hm : 0 < m) (hl : news.length = m * size) (hr : Rd w B A news) (h1 : ∀ u ∈ news, u.oneCell' = true)
    (h63 : n + m ≤ maxLen) (hbytes : (n + m) * bytes ≤ 140737488355328) (hbase : base ≤ w.heap.size)
    (h : ∀ v' w', ApdK w w' base e size g n cap m v' xs news → K (a.put o.dst v') w') : o.wp P a w K Q := by
  obtain ⟨ht, ⟨i, hi, hz, hsize, hby⟩, hzs, hsz⟩ := he
  have hnl : 0 < news.length := by rw [hl]; exact Nat.mul_pos hm hsz
  obtain ⟨b, off, rfl, _, hcells⟩ := hr.at_ hnl
  have hc : ∀ j u, news[j]? = some u → w.cell? ((⟨b, off, none⟩ : Addr).add j) = some u := fun j u hu => by
    rw [Addr.add_lit]
    exact hcells j u hu
  have key : ∃ v' w', (Builtin.append_ #[t, t] o.type #[.slice (some ⟨g, 0, none⟩) n cap, .slice (some ⟨b, off, none⟩) m c]).run P w = .ok v' w' ∧ ApdK w w' base e size g n cap m v' xs news := by
    by_cases hroom : n + m ≤ cap
    · obtain ⟨w', hrun, h2, h3⟩ := run_append_fits (P := P) w base t o.type e i size ht hi hsize g n cap xs hown ⟨b, off, none⟩ m c news hl hc h1 hroom
      exact ⟨_, w', hrun, h2, own_prefix h2 hown.1, h3, (Below.refl _ _).grown h3 hbase (fun k hk => by
        injection hk with hk
        subst hk
        exact (hown.lt _ rfl).1)⟩
    · obtain ⟨v', w', hrun, h2, h3⟩ := run_append_arg_grows (P := P) w t o.type e i z size bytes ht hi hz hsize hby hzs hsz ⟨g, 0, none⟩ n cap xs hown.1 (hown.cells rfl) ⟨b, off, none⟩ m c news hl hc (by omega) h63 hbytes
      have hk : ∀ k, k < w.heap.size → w'.heap[k]? = w.heap[k]? := fun k hk => h3.block k hk (by simp)
      exact ⟨v', w', hrun, own_mono h2 hbase, own_keep hown hk, ⟨h3.os, h3.tape, h3.output, h3.size, fun k hk' _ => hk k hk'⟩, (Below.refl _ _).grown h3 hbase (fun k hk => by cases hk)⟩
  obtain ⟨v', w', hrun, hA⟩ := key
  unfold Oper.wp execOp
  simp only [ho, resolve, invoke, builtin, Sem.run_bind, Sem.run_pure, Result.andThen_ok, List.map_toArray, List.map_cons, List.map_nil, hs, hx, hrun]
  exact h v' w' hA
theorem wpList_append_keep {ops : Array Oper} {rest : List Oper} {o : Oper} {a : Act} {Q : Exit → Act → World → Prop} (hgd : o.guard = none) (s x : Operand) (t : TypeId)
    (ho : o.op = .call { callee := .builtin .append, args := #[s, x], argTypes := #[t, t] })
    (base : Nat) (e : TypeId) (z : Value) (size bytes : Nat) (he : Elm P t e z size bytes)
    (g n cap : Nat) (xs : List Value) (hs : a.eval s = .slice (some ⟨g, 0, none⟩) n cap) (hown : w.ownsRow base e size (.slice (some ⟨g, 0, none⟩) n cap) n xs)
    (B : Nat) (A : Option Addr) (m c : Nat) (news : List Value) (hx : a.eval x = .slice A m c) (hm : 0 < m) (hl : news.length = m * size) (hr : Rd w B A news) (h1 : ∀ u ∈ news, u.oneCell' = true)
    (h63 : n + m ≤ maxLen) (hbytes : (n + m) * bytes ≤ 140737488355328) (hbase : base ≤ w.heap.size)
    (h : ∀ v' w', ApdK w w' base e size g n cap m v' xs news → wpList P ops Q rest (a.put o.dst v') w') : wpList P ops Q (o :: rest) a w :=
  wpList_plain hgd fun _ hK => wp_append_keep w s x t ho base e z size bytes he g n cap xs hs hown B A m c news hx hm hl hr h1 h63 hbytes hbase fun v' w' h2 => hK _ _ (h v' w' h2)
end

/-- A text that lies somewhere. -/
structure Tx where
  A : Option Addr
  c : Nat
  l : List UInt8
def Tx.val (x : Tx) : Value := .slice x.A x.l.length x.c
def Tx.ok (w : World) (x : Tx) : Prop := Rd w w.heap.size x.A (vb x.l)
def vt (l : List Tx) : List Value := l.map Tx.val
theorem vt_get {l : List Tx} {i : Nat} {x : Tx} (h : l[i]? = some x) : (vt l)[i]? = some (.slice x.A x.l.length x.c) := by simp [vt, h, Tx.val]
end Go.Proofs.Ytcbngjpihcemiaa
