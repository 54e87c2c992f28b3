/- Words for memory, over any program: a slice that reads as a list, one that may be appended to, one block known whole, and what an append does to them. No program in sight. -/
import Derived.WalkKit
import Derived.WalkSpells
import Derived.ArgAppend
import Derived.Maps.AppendAt
import Derived.Deep.AppendLies
import Derived.Deep.Draws
import Derived.Laws.OwnMore
import Derived.Laws.BytesArg
import Derived.Laws.MakeOwn
import Derived.Lib.Hide
import Derived.Laws.BytesString
import Derived.Deep.RegionLaw
namespace Go.Proofs.Ytcbngjpihcemiaa
open Go.RowKit

/-- Bytes as cells. -/
def vb (l : List UInt8) : List Value := l.map fun c => .int .u8 (c.toNat : Int)
theorem vb_length (l : List UInt8) : (vb l).length = l.length := by simp [vb]
theorem vb_nil : vb [] = [] := rfl
theorem vb_cons (c : UInt8) (l : List UInt8) : vb (c :: l) = .int .u8 (c.toNat : Int) :: vb l := rfl
theorem vb_append (a b : List UInt8) : vb (a ++ b) = vb a ++ vb b := by simp [vb]
theorem vb_one (l : List UInt8) : ∀ u ∈ vb l, u.oneCell' = true := by
  intro u hu
  simp only [vb, List.mem_map] at hu
  obtain ⟨c, _, rfl⟩ := hu
  rfl
theorem vb_get (l : List UInt8) (i : Nat) (h : i < l.length) : (vb l)[i]? = some (.int .u8 (l[i].toNat : Int)) := by
  simp [vb, h]
theorem vb_drop (l : List UInt8) (k : Nat) : vb (l.drop k) = (vb l).drop k := by simp [vb, List.map_drop]
theorem vb_take (l : List UInt8) (k : Nat) : vb (l.take k) = (vb l).take k := by simp [vb, List.map_take]
theorem vb_inj {a b : List UInt8} (h : vb a = vb b) : a = b := by
  induction a generalizing b with
  | nil => cases b with
    | nil => rfl
    | cons c b => cases h
  | cons c a ih => cases b with
    | nil => cases h
    | cons d b =>
      simp only [vb_cons, List.cons.injEq, Value.int.injEq, true_and] at h
      obtain ⟨h1, h2⟩ := h
      rw [ih h2, UInt8.toNat_inj.1 (show c.toNat = d.toNat by omega)]

/-- The address A leads to the cells xs, in a block below B (nothing is asked where xs is empty). -/
def Rd (w : World) (B : Nat) (A : Option Addr) (xs : List Value) : Prop :=
  ∀ j u, xs[j]? = some u → ∃ b off, A = some ⟨b, off, none⟩ ∧ b < B ∧ w.cell? ⟨b, off + j, none⟩ = some u

section
variable {w w' : World} {B B' : Nat} {A : Option Addr} {xs : List Value}
theorem Rd.nil_ (w : World) (B : Nat) (A : Option Addr) : Rd w B A [] := fun j u h => by simp at h
theorem Rd.keep (h : Rd w B A xs) (hk : ∀ b, b < B → w'.heap[b]? = w.heap[b]?) : Rd w' B A xs := fun j u hu => by
  obtain ⟨b, off, hA, hb, hc⟩ := h j u hu
  exact ⟨b, off, hA, hb, (World.cell?_of_block (hk b hb)).trans hc⟩
theorem Rd.mono (h : Rd w B A xs) (hB : B ≤ B') : Rd w B' A xs := fun j u hu => by
  obtain ⟨b, off, hA, hb, hc⟩ := h j u hu
  exact ⟨b, off, hA, by omega, hc⟩
theorem Rd.below (h : Rd w B A xs) (hb : Below B w w') : Rd w' B A xs := h.keep hb.block
theorem Rd.drewN (h : Rd w B A xs) (k : Nat) : Rd (w.drewN k) B A xs := h
theorem Rd.alloc (h : Rd w B A xs) (hB : B ≤ w.heap.size) (o : Obj) : Rd (w.alloc o) B A xs := h.keep fun b hb => Below.heap_alloc w o b (by omega)
theorem Rd.grown (h : Rd w B A xs) {row : Option Nat} (hg : w.grownBy w' row) (hB : B ≤ w.heap.size) (hr : ∀ g, row = some g → B ≤ g) : Rd w' B A xs :=
  h.keep fun b hb => hg.block b (by omega) (fun e => by have := hr _ e.symm; omega)
theorem Rd.drop (h : Rd w B A xs) (k : Nat) : Rd w B (A.map (·.add k)) (xs.drop k) := fun j u hu => by
  rw [List.getElem?_drop] at hu
  obtain ⟨b, off, rfl, hb, hc⟩ := h _ u hu
  refine ⟨b, off + k, ?_, hb, by rw [Nat.add_assoc]; exact hc⟩
  simp [Addr.add_lit]
theorem Rd.cut (h : Rd w B A xs) {k cap : Nat} (hc : xs.length ≤ cap) : Rd w B (if cap = k then A else A.map (·.add k)) (xs.drop k) := by
  by_cases e : cap = k
  · rw [if_pos e, List.drop_of_length_le (by omega)]
    exact Rd.nil_ _ _ _
  · rw [if_neg e]
    exact h.drop k
theorem Rd.take (h : Rd w B A xs) (k : Nat) : Rd w B A (xs.take k) := fun j u hu => by
  rw [List.getElem?_take] at hu
  split at hu
  · exact h j u hu
  · cases hu
theorem Rd.pre {ys : List Value} (h : Rd w B A (xs ++ ys)) : Rd w B A xs := by
  have := h.take xs.length
  simpa using this
/-- The address is one, where there is anything. -/
theorem Rd.at_ (h : Rd w B A xs) (hn : 0 < xs.length) : ∃ b off, A = some ⟨b, off, none⟩ ∧ b < B ∧ ∀ j u, xs[j]? = some u → w.cell? ⟨b, off + j, none⟩ = some u := by
  obtain ⟨b, off, rfl, hb, _⟩ := h 0 xs[0] (List.getElem?_eq_getElem hn)
  refine ⟨b, off, rfl, hb, fun j u hu => ?_⟩
  obtain ⟨b', off', e, _, hc'⟩ := h j u hu
  simp only [Option.some.injEq, Addr.mk.injEq] at e
  obtain ⟨rfl, rfl, _⟩ := e
  exact hc'
theorem Rd.add (h : Rd w B A xs) {a : Addr} (hA : A = some a) : ∀ j u, xs[j]? = some u → w.cell? (a.add j) = some u := fun j u hu => by
  obtain ⟨b, off, e, _, hc⟩ := h j u hu
  rw [hA] at e
  simp only [Option.some.injEq] at e
  subst e
  simpa [Addr.add_lit] using hc
theorem Rd.byte {l : List UInt8} (h : Rd w B A (vb l)) {i : Nat} (hi : i < l.length) : ∃ b off, A = some ⟨b, off, none⟩ ∧ b < B ∧ w.cell? ⟨b, off + i, none⟩ = some (.int .u8 (l[i].toNat : Int)) :=
  h i _ (vb_get l i hi)
theorem Rd.of_own {base : Nat} {e : TypeId} {size n c : Nat} (h : w.ownsRow base e size (.slice A n c) n xs) : Rd w w.heap.size A xs := by
  intro j u hu
  have hn : 0 < n := by
    rcases Nat.eq_zero_or_pos n with h0 | h0
    · subst h0
      have := h.1
      simp at this
      subst this
      simp at hu
    · exact h0
  obtain ⟨g, cap, hv, _, hlt⟩ := h.form hn
  have hA : A = some ⟨g, 0, none⟩ := by injection hv
  subst hA
  refine ⟨g, 0, rfl, hlt, ?_⟩
  have := h.cells (g := g) rfl j u hu
  simpa [Addr.add_lit] using this
end

/-- A block that is known whole. -/
def Bk (w : World) (g : Nat) (t : TypeId) (cs : Array Value) : Prop := w.heap[g]? = some (.cells cs t (0, 0))
section
variable {w w' : World} {g : Nat} {t : TypeId} {cs : Array Value}
theorem Bk.lt (h : Bk w g t cs) : g < w.heap.size := by
  unfold Bk at h
  rcases Nat.lt_or_ge g w.heap.size with hlt | hge
  · exact hlt
  · rw [Array.getElem?_eq_none hge] at h
    cases h
theorem Bk.cell (h : Bk w g t cs) (i : Nat) : w.cell? ⟨g, i, none⟩ = cs[i]? := cell_of_row w g i cs t (0, 0) h
theorem Bk.free (h : Bk w g t cs) (i : Nat) : w.frozen? ⟨g, i, none⟩ = false := by
  unfold Bk at h
  simp [World.frozen?, h]
theorem Bk.new (w : World) (t : TypeId) (cs : Array Value) : Bk (w.alloc (.cells cs t)) w.heap.size t cs := heap_alloc_new w _
theorem Bk.drewN (h : Bk w g t cs) (n : Nat) : Bk (w.drewN n) g t cs := h
theorem Bk.alloc (h : Bk w g t cs) (o : Obj) : Bk (w.alloc o) g t cs := (Below.heap_alloc w o g h.lt).trans h
theorem Bk.put (h : Bk w g t cs) (i : Nat) (u : Value) : Bk (w.setCell ⟨g, i, none⟩ u) g t (cs.setIfInBounds i u) := by
  unfold Bk at h ⊢
  simp [World.setCell, Array.getElem?_modify, h]
theorem Bk.far (h : Bk w g t cs) {p : Addr} (hp : g ≠ p.block) (u : Value) : Bk (w.setCell p u) g t cs := (Below.heap_setCell w p u g hp).trans h
theorem Bk.keep (h : Bk w g t cs) (hk : w'.heap[g]? = w.heap[g]?) : Bk w' g t cs := hk.trans h
theorem Bk.below {B : Nat} (h : Bk w g t cs) (hb : Below B w w') (hg : g < B) : Bk w' g t cs := (hb.block g hg).trans h
theorem Bk.grown {row : Option Nat} (h : Bk w g t cs) (hb : w.grownBy w' row) (hg : some g ≠ row) : Bk w' g t cs := (hb.block g h.lt hg).trans h
theorem Bk.ne_ {g' : Nat} {t' : TypeId} {cs' : Array Value} (h : Bk w g t cs) (h' : Bk w g' t' cs') (hne : t ≠ t') : g ≠ g' := by
  rintro rfl
  unfold Bk at h h'
  rw [h] at h'
  injection h' with h'
  injection h' with _ ht
  exact hne ht
end

/-- A slice value of n elements, the cells xs, that may be appended to without a turn of anything below base: it is the call's own, or it has no room. -/
def App (w : World) (base : Nat) (e : TypeId) (size : Nat) (v : Value) (n : Nat) (xs : List Value) : Prop :=
  w.ownsRow base e size v n xs ∨ (xs.length = n * size ∧ ∃ A, v = .slice A n n ∧ (A = none → n = 0) ∧ Rd w w.heap.size A xs)

section
variable {w w' : World} {base size n : Nat} {e : TypeId} {v : Value} {xs : List Value}
theorem App.len (h : App w base e size v n xs) : xs.length = n * size := by
  rcases h with h | h
  · exact h.1
  · exact h.1
theorem App.nil_ (w : World) (base : Nat) (e : TypeId) (size : Nat) : App w base e size (.slice none 0 0) 0 [] := .inl (World.ownsRow_nil _ _ _ _)
theorem App.slice (h : App w base e size v n xs) : ∃ A c, v = .slice A n c ∧ n ≤ c ∧ Rd w w.heap.size A xs := by
  rcases h with h | ⟨_, A, rfl, _, hr⟩
  · have h2 := h.2
    rcases h2 with ⟨rfl, rfl⟩ | ⟨g, cap, cur, rfl, _, _, hn, _⟩
    · exact ⟨none, 0, rfl, Nat.le_refl _, Rd.of_own h⟩
    · exact ⟨_, cap, rfl, hn, Rd.of_own h⟩
  · exact ⟨A, n, rfl, Nat.le_refl _, hr⟩
theorem App.own (h : w.ownsRow base e size v n xs) : App w base e size v n xs := .inl h
theorem own_mono {base' : Nat} (h : w.ownsRow base e size v n xs) (hb : base' ≤ base) : w.ownsRow base' e size v n xs := by
  refine ⟨h.1, ?_⟩
  rcases h.2 with h2 | ⟨g, cap, cur, h1, h2, h3⟩
  · exact .inl h2
  · exact .inr ⟨g, cap, cur, h1, by omega, h3⟩
theorem App.mono {base' : Nat} (h : App w base e size v n xs) (hb : base' ≤ base) : App w base' e size v n xs := by
  rcases h with h | h
  · exact .inl (own_mono h hb)
  · exact .inr h
theorem App.drewN (h : App w base e size v n xs) (k : Nat) : App (w.drewN k) base e size v n xs := h
theorem own_keep (h : w.ownsRow base e size v n xs) (hk : ∀ b, b < w.heap.size → w'.heap[b]? = w.heap[b]?) : w'.ownsRow base e size v n xs := by
  refine ⟨h.1, ?_⟩
  rcases h.2 with h2 | ⟨g, cap, cur, h1, h2, h3, h4⟩
  · exact .inl h2
  · refine .inr ⟨g, cap, cur, h1, h2, ?_, h4⟩
    rw [hk g (Bk.lt (t := e) h3)]
    exact h3
theorem App.keep (h : App w base e size v n xs) (hs : w.heap.size ≤ w'.heap.size) (hk : ∀ b, b < w.heap.size → w'.heap[b]? = w.heap[b]?) : App w' base e size v n xs := by
  rcases h with h | ⟨h1, A, h2, h3, h4⟩
  · exact .inl (own_keep h hk)
  · exact .inr ⟨h1, A, h2, h3, (h4.keep hk).mono hs⟩
theorem App.alloc (h : App w base e size v n xs) (o : Obj) : App (w.alloc o) base e size v n xs := h.keep (by simp) fun b hb => Below.heap_alloc w o b hb
theorem App.below (h : App w base e size v n xs) (hb : Below w.heap.size w w') : App w' base e size v n xs := h.keep hb.size hb.block
end

section
variable {P : Program} (w : World)
theorem run_append_zero (base : Nat) (t ty e : TypeId) (i : TypeInfo) (size : Nat) (ht : P.underlying t = some (.slice e)) (hi : P.info? e = some i)
    (v : Value) (n : Nat) (xs : List Value) (h : App w base e size v n xs) (A : Option Addr) (c : Nat) :
    (Builtin.append_ #[t, t] ty #[v, .slice A 0 c]).run P w = .ok v w := by
  have key : ∀ (A' : Option Addr) (cap : Nat), n ≤ cap → (Builtin.append_ #[t, t] ty #[.slice A' n cap, .slice A 0 c]).run P w = .ok (.slice A' n cap) w := by
    intro A' cap hn
    cases A' <;> cases A <;> simp [Builtin.append_, run_underlying ht, sizeOf, typeInfo, hi, Builtin.lenOf, Builtin.firstCells, hn, storeCells, loadCells, loadCellsFrom]
  obtain ⟨A', cap, rfl, hn, _⟩ := h.slice
  exact key A' cap hn

theorem run_append_app (base : Nat) (t ty e : TypeId) (i : TypeInfo) (z : Value) (size bytes : Nat) (ht : P.underlying t = some (.slice e)) (hi : P.info? e = some i) (hz : i.zero = some z)
    (hsize : i.size = size) (hby : i.bytes = bytes) (hzs : z.cells.size = size) (hsz : 0 < size)
    (v : Value) (n : Nat) (xs : List Value) (h : App w base e size v n xs)
    (B : Nat) (A : Option Addr) (m c : Nat) (news : List Value) (hl : news.length = m * size) (hr : Rd w B A news) (h1 : ∀ u ∈ news, u.oneCell' = true)
    (h63 : n + m ≤ maxLen) (hbytes : (n + m) * bytes ≤ 140737488355328) (hbase : base ≤ w.heap.size) :
    ∃ v' w', (Builtin.append_ #[t, t] ty #[v, .slice A m c]).run P w = .ok v' w' ∧ App w' base e size v' (n + m) (xs ++ news) ∧ (0 < m ∨ w.ownsRow base e size v n xs → w'.ownsRow base e size v' (n + m) (xs ++ news)) ∧
      w.grownBy w' v.ownBlock ∧ Below base w w' ∧ (v'.ownBlock = v.ownBlock ∨ ∃ g, v'.ownBlock = some g ∧ w.heap.size ≤ g) := by
  rcases Nat.eq_zero_or_pos m with h0 | h0
  · subst h0
    obtain rfl : news = [] := List.eq_nil_of_length_eq_zero (by simpa using hl)
    exact ⟨v, w, run_append_zero w base t ty e i size ht hi v n xs h A c, by simpa using h, (fun hh => by simpa using hh.resolve_left (by omega)), World.grownBy.refl w _, Below.refl _ _, .inl rfl⟩
  · have hnl : 0 < news.length := by rw [hl]; exact Nat.mul_pos h0 hsz
    obtain ⟨b, off, rfl, _, hcells⟩ := hr.at_ hnl
    have hc : ∀ j u, news[j]? = some u → w.cell? ((⟨b, off, none⟩ : Addr).add j) = some u := fun j u hu => by
      rw [Addr.add_lit]
      exact hcells j u hu
    rcases h with h | ⟨hlx, A', rfl, hA', hr'⟩
    · obtain ⟨v', w', hrun, h2, h3, _, h5⟩ := run_append_own_at (P := P) w base t ty e i z size bytes ht hi hz hsize hby hzs hsz v n xs h ⟨b, off, none⟩ m c news hl hc h1 h63 hbytes hbase
      refine ⟨v', w', hrun, .inl h2, fun _ => h2, h3, (Below.refl _ _).grown h3 hbase (fun k hk => (h.lt k hk).1), h5.imp id fun h6 => ⟨_, h6, Nat.le_refl _⟩⟩
    · rcases A' with _ | a'
      · obtain rfl := hA' rfl
        obtain rfl : xs = [] := List.eq_nil_of_length_eq_zero (by simpa using hlx)
        obtain ⟨v', w', hrun, h2, h3, _, h5⟩ := run_append_own_at (P := P) w base t ty e i z size bytes ht hi hz hsize hby hzs hsz (.slice none 0 0) 0 [] (World.ownsRow_nil _ _ _ _) ⟨b, off, none⟩ m c news hl hc h1 h63 hbytes hbase
        exact ⟨v', w', hrun, .inl h2, fun _ => h2, h3, (Below.refl _ _).grown h3 hbase (fun k hk => by simp [Value.ownBlock] at hk), h5.imp id fun h6 => ⟨_, h6, Nat.le_refl _⟩⟩
      · obtain ⟨v', w', hrun, h2, h3⟩ := run_append_arg_grows (P := P) w t ty e i z size bytes ht hi hz hsize hby hzs hsz a' n n xs hlx (hr'.add rfl) ⟨b, off, none⟩ m c news hl hc (by omega) h63 hbytes
        have h2' := own_mono h2 hbase
        have hpos : 0 < n + m := by omega
        obtain ⟨g, cap, hv', _, _⟩ := h2.form hpos
        have hg : v'.ownBlock = some g := by rw [hv']; rfl
        refine ⟨v', w', hrun, .inl h2', fun _ => h2', ⟨h3.os, h3.tape, h3.output, h3.size, fun k hk _ => h3.block k hk (by simp)⟩, (Below.refl _ _).grown h3 hbase (fun k hk => by cases hk), ?_⟩
        exact .inr ⟨g, hg, (h2.lt g hg).1⟩
end
/-- What is known of an element's type, and of the slices of it. -/
def Elm (P : Program) (t e : TypeId) (z : Value) (size bytes : Nat) : Prop :=
  P.underlying t = some (.slice e) ∧ (∃ i, P.info? e = some i ∧ i.zero = some z ∧ i.size = size ∧ i.bytes = bytes) ∧ z.cells.size = size ∧ 0 < size
theorem Elm.mk {P : Program} {t e : TypeId} {z : Value} {size bytes : Nat} (ht : P.underlying t = some (.slice e)) (h : (P.info? e).map (fun i => (i.zero, i.size, i.bytes)) = some (some z, size, bytes))
    (h1 : z.cells.size = size) (h2 : 0 < size) : Elm P t e z size bytes := by
  obtain ⟨i, a, b, c, d⟩ := info_parts h
  exact ⟨ht, ⟨i, a, b, c, d⟩, h1, h2⟩

/-- What an append leaves. -/
structure Apd (w w' : World) (base : Nat) (e : TypeId) (size : Nat) (v v' : Value) (n m : Nat) (xs news : List Value) : Prop where
  app : App w' base e size v' (n + m) (xs ++ news)
  own : 0 < m ∨ w.ownsRow base e size v n xs → w'.ownsRow base e size v' (n + m) (xs ++ news)
  grown : w.grownBy w' v.ownBlock
  below : Below base w w'
  blk : v'.ownBlock = v.ownBlock ∨ ∃ g, v'.ownBlock = some g ∧ w.heap.size ≤ g

section
variable {P : Program} (w : World)
theorem wp_append_app {o : Oper} {a : Act} {K : Act → World → Prop} {Q : Exit → Act → World → Prop} (s x : Operand) (t : TypeId)
    (ho : o.op = .call { callee := .builtin .append, args := #[s, x], argTypes := #[t, t] })
    (base : Nat) (e : TypeId) (z : Value) (size bytes : Nat) (he : Elm P t e z size bytes)
    (v : Value) (n : Nat) (xs : List Value) (hs : a.eval s = v) (happ : App w base e size v n xs)
    (B : Nat) (A : Option Addr) (m c : Nat) (news : List Value) (hx : a.eval x = .slice A m c) (hl : news.length = m * size) (hr : Rd w B A news) (h1 : ∀ u ∈ news, u.oneCell' = true)
    (h63 : n + m ≤ maxLen) (hbytes : (n + m) * bytes ≤ 140737488355328) (hbase : base ≤ w.heap.size)
    (h : ∀ v' w', Apd w w' base e size v v' n m xs news → K (a.put o.dst v') w') : o.wp P a w K Q := by
  obtain ⟨ht, ⟨i, hi, hz, hsize, hby⟩, hzs, hsz⟩ := he
  obtain ⟨v', w', hrun, h2, h3, h4, h5, h6⟩ := run_append_app (P := P) w base t o.type e i z size bytes ht hi hz hsize hby hzs hsz v n xs happ B A m c news hl hr h1 h63 hbytes hbase
  unfold Oper.wp execOp
  simp only [ho, resolve, invoke, builtin, Sem.run_bind, Sem.run_pure, Result.andThen_ok, List.map_toArray, List.map_cons, List.map_nil, hs, hx, hrun]
  exact h v' w' ⟨h2, h3, h4, h5, h6⟩

theorem wpList_append_app {ops : Array Oper} {rest : List Oper} {o : Oper} {a : Act} {Q : Exit → Act → World → Prop} (hgd : o.guard = none) (s x : Operand) (t : TypeId)
    (ho : o.op = .call { callee := .builtin .append, args := #[s, x], argTypes := #[t, t] })
    (base : Nat) (e : TypeId) (z : Value) (size bytes : Nat) (he : Elm P t e z size bytes)
    (v : Value) (n : Nat) (xs : List Value) (hs : a.eval s = v) (happ : App w base e size v n xs)
    (B : Nat) (A : Option Addr) (m c : Nat) (news : List Value) (hx : a.eval x = .slice A m c) (hl : news.length = m * size) (hr : Rd w B A news) (h1 : ∀ u ∈ news, u.oneCell' = true)
    (h63 : n + m ≤ maxLen) (hbytes : (n + m) * bytes ≤ 140737488355328) (hbase : base ≤ w.heap.size)
    (h : ∀ v' w', Apd w w' base e size v v' n m xs news → wpList P ops Q rest (a.put o.dst v') w') : wpList P ops Q (o :: rest) a w :=
  wpList_plain hgd fun _ hK => wp_append_app w s x t ho base e z size bytes he v n xs hs happ B A m c news hx hl hr h1 h63 hbytes hbase fun v' w' h2 => hK _ _ (h v' w' h2)

theorem step_append_app {ops : Array Oper} {o : Oper} {a : Act} {K : Act → World → Prop} {Q : Exit → Act → World → Prop} {E : Prop} (hgd : o.guard = none) (s x : Operand) (t : TypeId)
    (ho : o.op = .call { callee := .builtin .append, args := #[s, x], argTypes := #[t, t] })
    (base : Nat) (e : TypeId) (z : Value) (size bytes : Nat) (he : Elm P t e z size bytes)
    (v : Value) (n : Nat) (xs : List Value) (hs : a.eval s = v) (happ : App w base e size v n xs)
    (B : Nat) (A : Option Addr) (m c : Nat) (news : List Value) (hx : a.eval x = .slice A m c) (hl : news.length = m * size) (hr : Rd w B A news) (h1 : ∀ u ∈ news, u.oneCell' = true)
    (h63 : n + m ≤ maxLen) (hbytes : (n + m) * bytes ≤ 140737488355328) (hbase : base ≤ w.heap.size)
    (h : ∀ v' w', Apd w w' base e size v v' n m xs news → K (a.put o.dst v') w') :
    if Region.wanted o (yielded ops a.tmps) = true then Oper.wp P o a w K Q else E := by
  have hw : Region.wanted o (yielded ops a.tmps) = true := by simp [Region.wanted, hgd]
  rw [if_pos hw]
  exact wp_append_app w s x t ho base e z size bytes he v n xs hs happ B A m c news hx hl hr h1 h63 hbytes hbase h

/-- One element, laid in a block of its own ahead of the append. -/
theorem rd_one (x : Value) (t : TypeId) : Rd (w.alloc (.cells #[x] t)) (w.heap.size + 1) (some ⟨w.heap.size, 0, none⟩) [x] := by
  intro j u hj
  match j, hj with
  | 0, hj =>
    simp at hj
    subst hj
    exact ⟨_, _, rfl, by omega, (Bk.new w t #[x]).cell 0⟩
theorem rd_new (cs : Array Value) (t : TypeId) : Rd (w.alloc (.cells cs t)) (w.heap.size + 1) (some ⟨w.heap.size, 0, none⟩) cs.toList := by
  intro j u hj
  refine ⟨_, _, rfl, by omega, ?_⟩
  rw [Nat.zero_add, (Bk.new w t cs).cell j]
  simpa using hj

theorem nums_of_bytes (l : List UInt8) : (l.map fun c => (c.toNat : Int)).foldl (fun (r : ByteArray) n => r.push (UInt8.ofNat n.toNat)) ByteArray.empty = ⟨l.toArray⟩ := by
  rw [foldl_push_bytes]
  simp [ByteArray.empty, ByteArray.emptyWithCapacity, List.map_map, Function.comp_def]
  rfl

theorem run_string_rd (src dst e : TypeId) (hs : P.underlying src = some (.slice e)) (he : P.underlying e = some (.int .u8)) (hd : P.underlying dst = some .string)
    {B : Nat} {A : Option Addr} (n c : Nat) (l : List UInt8) (hl : l.length = n) (h : Rd w B A (vb l)) : (convert src dst (.slice A n c)).run P w = .ok (.string ⟨l.toArray⟩) w := by
  rw [run_convert_bytes_string w src dst e A n c hs he hd]
  rcases A with _ | a
  · have : l = [] := by
      rcases l with _ | ⟨x, l⟩
      · rfl
      · obtain ⟨b, off, hA, _⟩ := h 0 _ rfl
        cases hA
    subst this
    simp [Conv.bytesToString]
    rfl
  · have hb : vb l = (l.map fun c => (c.toNat : Int)).map (Value.int .u8) := by simp [vb]
    have hload : (loadCells a n).run P w = .ok ((l.map fun c => (c.toNat : Int)).map (Value.int .u8)).toArray w := by
      have := run_loadCells_list (P := P) w a (vb l) (h.add rfl)
      rw [vb_length, hl] at this
      rw [this, hb]
    rw [run_bytesToString w a n c _ hload, nums_of_bytes]
end
/-- The same of bytes. -/
def AppB (w : World) (base : Nat) (e : TypeId) (v : Value) (l : List UInt8) : Prop := App w base e 1 v l.length (vb l)
theorem AppB.rd {w : World} {base : Nat} {e : TypeId} {v : Value} {l : List UInt8} (h : AppB w base e v l) : ∃ A c, v = .slice A l.length c ∧ l.length ≤ c ∧ Rd w w.heap.size A (vb l) := App.slice h
theorem AppB.alloc {w : World} {base : Nat} {e : TypeId} {v : Value} {l : List UInt8} (h : AppB w base e v l) (o : Obj) : AppB (w.alloc o) base e v l := App.alloc h o
theorem AppB.below {w w' : World} {base : Nat} {e : TypeId} {v : Value} {l : List UInt8} (h : AppB w base e v l) (hb : Below w.heap.size w w') : AppB w' base e v l := App.below h hb
theorem AppB.mono {w : World} {base base' : Nat} {e : TypeId} {v : Value} {l : List UInt8} (h : AppB w base e v l) (hb : base' ≤ base) : AppB w base' e v l := App.mono h hb
theorem AppB.nil_ (w : World) (base : Nat) (e : TypeId) : AppB w base e (.slice none 0 0) [] := App.nil_ _ _ _ _
theorem AppB.clip {w : World} {base : Nat} {e : TypeId} {A : Option Addr} {n : Nat} {l : List UInt8} (hl : l.length = n) (hA : A = none → n = 0) (hr : Rd w w.heap.size A (vb l)) : AppB w base e (.slice A n n) l := by
  subst hl
  exact .inr ⟨by rw [vb_length]; omega, A, rfl, hA, hr⟩

section
variable {P : Program} (w : World)
theorem wpList_append_byte {ops : Array Oper} {rest : List Oper} {o : Oper} {a : Act} {Q : Exit → Act → World → Prop} (hgd : o.guard = none) (s x : Operand) (t : TypeId)
    (ho : o.op = .call { callee := .builtin .append, args := #[s, x], argTypes := #[t, t] })
    (base : Nat) (e : TypeId) (z : Value) (he : Elm P t e z 1 1)
    (v : Value) (l : List UInt8) (hs : a.eval s = v) (happ : AppB w base e v l) (c : Int) (hx : a.eval x = .slice (some ⟨w.heap.size, 0, none⟩) 1 1)
    (hsz : l.length + 1 ≤ 140737488355328) (hbase : base ≤ w.heap.size) (hc : 0 ≤ c ∧ c < 256)
    (h : ∀ v' w', AppB w' base e v' (l ++ [UInt8.ofNat c.toNat]) → Below base w w' → w.grownBy w' v.ownBlock → wpList P ops Q rest (a.put o.dst v') w') :
    wpList P ops Q (o :: rest) a (w.alloc (.cells #[.int .u8 c] e)) := by
  refine wpList_append_app _ hgd s x t ho base e z 1 1 he v l.length (vb l) hs (App.alloc happ _) (w.heap.size + 1) _ 1 1 [.int .u8 c] hx rfl (rd_one w _ _) (by intro u hu; simp at hu; subst hu; rfl) (by simp only [maxLen]; omega) (by omega) (by simp; omega) fun v' w' hA => ?_
  have hcv : (Value.int .u8 c) = .int .u8 ((UInt8.ofNat c.toNat).toNat : Int) := by
    have : (UInt8.ofNat c.toNat).toNat = c.toNat := by simp; omega
    rw [this, Int.toNat_of_nonneg hc.1]
  refine h v' w' ?_ (((Below.refl _ _).alloc hbase _).trans hA.below) ((World.grownBy_alloc w _ _).trans hA.grown)
  have := hA.app
  rw [hcv] at this
  unfold AppB
  rw [vb_append, List.length_append]
  exact this

theorem wpList_append_bytes {ops : Array Oper} {rest : List Oper} {o : Oper} {a : Act} {Q : Exit → Act → World → Prop} (hgd : o.guard = none) (s x : Operand) (t : TypeId)
    (ho : o.op = .call { callee := .builtin .append, args := #[s, x], argTypes := #[t, t] })
    (base : Nat) (e : TypeId) (z : Value) (he : Elm P t e z 1 1)
    (v : Value) (l : List UInt8) (hs : a.eval s = v) (happ : AppB w base e v l) (B : Nat) (A : Option Addr) (m c : Nat) (news : List UInt8) (hx : a.eval x = .slice A m c) (hm : news.length = m) (hr : Rd w B A (vb news))
    (hsz : l.length + m ≤ 140737488355328) (hbase : base ≤ w.heap.size)
    (h : ∀ v' w', AppB w' base e v' (l ++ news) → Below base w w' → w.grownBy w' v.ownBlock → wpList P ops Q rest (a.put o.dst v') w') :
    wpList P ops Q (o :: rest) a w := by
  refine wpList_append_app _ hgd s x t ho base e z 1 1 he v l.length (vb l) hs happ B _ m c (vb news) hx (by rw [vb_length]; omega) hr (vb_one _) (by simp only [maxLen]; omega) (by omega) hbase fun v' w' hA => ?_
  refine h v' w' ?_ hA.below hA.grown
  have := hA.app
  unfold AppB
  rw [vb_append, List.length_append, hm]
  exact this
end
/-- The same, of all blocks that are there. -/
theorem Rd.new (w : World) (cs : Array Value) (t : TypeId) : Rd (w.alloc (.cells cs t)) (w.alloc (.cells cs t)).heap.size (some ⟨w.heap.size, 0, none⟩) cs.toList := (rd_new w cs t).mono (by simp)
theorem Rd.alloc_ {w : World} {A : Option Addr} {xs : List Value} (h : Rd w w.heap.size A xs) (o : Obj) : Rd (w.alloc o) (w.alloc o).heap.size A xs := (h.alloc (Nat.le_refl _) o).mono (by simp)
theorem Rd.below_ {w w' : World} {A : Option Addr} {xs : List Value} (h : Rd w w.heap.size A xs) (hb : Below w.heap.size w w') : Rd w' w'.heap.size A xs := (h.below hb).mono hb.size
/-- Steps of a call's own, told of all blocks that were there ahead. -/
theorem below_al {a w : World} (h : Below a.heap.size a w) (o : Obj) : Below a.heap.size a (w.alloc o) := h.alloc h.size o
theorem below_tr {a b c : World} (h : Below a.heap.size a b) (k : Below b.heap.size b c) : Below a.heap.size a c := h.trans (k.mono h.size)
theorem below_drN {B : Nat} {a w : World} (h : Below B a w) (n : Nat) : Below B a (w.drewN n) := ⟨h.os, h.tape, h.output, h.size, h.block⟩
theorem below_put {a w : World} (h : Below a.heap.size a w) {p : Addr} (hp : a.heap.size ≤ p.block) (u : Value) : Below a.heap.size a (w.setCell p u) := h.setCell hp u
theorem Rd.new_drew (w : World) (cs : Array Value) (t : TypeId) : Rd (w.alloc (.cells cs t)).drew (w.alloc (.cells cs t)).drew.heap.size (some ⟨w.heap.size, 0, none⟩) cs.toList := Rd.new w cs t
/-- w' is w with new blocks, and with writes to the blocks F alone. -/
structure Frm (w w' : World) (F : List Nat) : Prop where
  os : w'.os = w.os
  tape : w'.tape = w.tape
  output : w'.output = w.output
  size : w.heap.size ≤ w'.heap.size
  block : ∀ k, k < w.heap.size → k ∉ F → w'.heap[k]? = w.heap[k]?
section
variable {a b c w w' : World} {F G : List Nat}
theorem Frm.refl (w : World) (F : List Nat) : Frm w w F := ⟨rfl, rfl, rfl, Nat.le_refl _, fun _ _ _ => rfl⟩
theorem Frm.of_below (h : Below w.heap.size w w') (F : List Nat) : Frm w w' F := ⟨h.os, h.tape, h.output, h.size, fun k hk _ => h.block k hk⟩
theorem Frm.below {B : Nat} (h : Frm w w' F) (hF : ∀ g ∈ F, B ≤ g) (hB : B ≤ w.heap.size) : Below B w w' :=
  ⟨h.os, h.tape, h.output, h.size, fun k hk => h.block k (by omega) (fun hm => by have := hF k hm; omega)⟩
theorem Frm.tr (h : Frm a b F) (k : Frm b c G) (hG : ∀ g ∈ G, g ∈ F ∨ a.heap.size ≤ g) : Frm a c F :=
  ⟨k.os.trans h.os, k.tape.trans h.tape, k.output.trans h.output, Nat.le_trans h.size k.size, fun i hi hn =>
    (k.block i (Nat.lt_of_lt_of_le hi h.size) (fun hm => (hG i hm).elim hn (fun h2 => by omega))).trans (h.block i hi hn)⟩
theorem Frm.trans (h : Frm a b F) (k : Frm b c F) : Frm a c F := h.tr k fun _ hg => .inl hg
theorem Frm.sub (h : Frm a b F) (hG : ∀ g ∈ F, g ∈ G ∨ a.heap.size ≤ g) : Frm a b G :=
  ⟨h.os, h.tape, h.output, h.size, fun i hi hn => h.block i hi fun hm => (hG i hm).elim hn fun h2 => by omega⟩
theorem Frm.alloc (h : Frm a w F) (o : Obj) : Frm a (w.alloc o) F :=
  ⟨h.os, h.tape, h.output, Nat.le_trans h.size (by simp), fun i hi hn => (Below.heap_alloc w o i (Nat.lt_of_lt_of_le hi h.size)).trans (h.block i hi hn)⟩
theorem Frm.drew (h : Frm a w F) : Frm a w.drew F := ⟨h.os, h.tape, h.output, h.size, h.block⟩
theorem Frm.drewN (h : Frm a w F) (n : Nat) : Frm a (w.drewN n) F := ⟨h.os, h.tape, h.output, h.size, h.block⟩
theorem Frm.put (h : Frm a w F) {p : Addr} (hp : p.block ∈ F ∨ a.heap.size ≤ p.block) (u : Value) : Frm a (w.setCell p u) F :=
  ⟨h.os, h.tape, h.output, by simpa [World.setCell] using h.size, fun i hi hn => (Below.heap_setCell w p u i (by
    rintro rfl
    rcases hp with hp | hp
    · exact hn hp
    · omega)).trans (h.block i hi hn)⟩
theorem Frm.grown {row : Option Nat} (h : Frm a w F) (k : w.grownBy w' row) (hr : ∀ g, row = some g → g ∈ F ∨ a.heap.size ≤ g) : Frm a w' F :=
  ⟨k.os.trans h.os, k.tape.trans h.tape, k.output.trans h.output, Nat.le_trans h.size k.size, fun i hi hn =>
    (k.block i (Nat.lt_of_lt_of_le hi h.size) (fun e => (hr i e.symm).elim hn (fun h2 => by omega))).trans (h.block i hi hn)⟩
theorem Bk.frm {g : Nat} {t : TypeId} {cs : Array Value} (h : Bk w g t cs) (k : Frm w w' F) (hg : g ∉ F) : Bk w' g t cs := (k.block g h.lt hg).trans h
theorem Rd.frm {B : Nat} {A : Option Addr} {xs : List Value} (h : Rd w B A xs) (k : Frm w w' F) (hB : B ≤ w.heap.size) (hF : ∀ g ∈ F, B ≤ g) : Rd w' B A xs := h.below (k.below hF hB)
end
theorem max_int2 (ats : Array TypeId) (ty : TypeId) (k k' : IntKind) (x y : Int) : Builtin.max_ ats ty #[.int k x, .int k' y] = pure (.int k (max x y)) := by
  have h : (if x < y then y else x) = max x y := by omega
  simp [Builtin.max_, Builtin.max2, ← h]
theorem min_int2 (ats : Array TypeId) (ty : TypeId) (k k' : IntKind) (x y : Int) : Builtin.min_ ats ty #[.int k x, .int k' y] = pure (.int k (min x y)) := by
  have h : (if y < x then y else x) = min x y := by omega
  simp [Builtin.min_, Builtin.min2, ← h]

/-- A slice that is not empty lies from block lo on. -/
def Lo (lo : Nat) (A : Option Addr) (n : Nat) : Prop := ∀ a, A = some a → 0 < n → lo ≤ a.block
theorem Lo.mono {lo lo' n : Nat} {A : Option Addr} (h : Lo lo A n) (hl : lo' ≤ lo) : Lo lo' A n := fun a ha hn => Nat.le_trans hl (h a ha hn)
theorem lo_cut {lo n k c s : Nat} {A : Option Addr} (h : Lo lo A n) : Lo lo (if c = k then A else A.map (·.add s)) (n - k) := by
  intro a ha hp
  split at ha
  · exact h a ha (by omega)
  · cases A with
    | none => cases ha
    | some b =>
      simp only [Option.map_some, Option.some.injEq] at ha
      subst ha
      have := h b rfl (by omega)
      unfold Addr.add
      split <;> exact this
theorem lo_own {w : World} {base size n c : Nat} {e : TypeId} {A : Option Addr} {xs : List Value} (h : w.ownsRow base e size (.slice A n c) n xs) : Lo base A n := fun a ha _ => (h.lt a.block (by rw [ha]; rfl)).1

theorem elm_elem {P : Program} {t e : TypeId} {z : Value} {size bytes : Nat} (he : Elm P t e z size bytes) : P.underlying t = some (.slice (P.elem t)) := by
  have h := he.1
  have : P.elem t = e := by simp [Program.elem, h]
  rw [this]
  exact h
/-- 's[k:]', whatever the capacity. -/
theorem cut_lo {P : Program} {t e : TypeId} {z : Value} {size bytes : Nat} (he : Elm P t e z size bytes) (A : Option Addr) (n c k : Nat) (hk : k ≤ n) (hc : n ≤ c) (_hm : c ≤ maxLen) :
    ∃ A', (∀ (kl : IntKind) (w : World), (Instr.slice t (.slice A n c) (some (.int kl (k : Int))) none none).run P w = .ok (.slice A' (n - k) (c - k)) w) ∧
      (∀ (w : World) (B : Nat) (xs : List Value), Rd w B A xs → xs.length = n * size → Rd w B A' (xs.drop (k * size))) ∧ (∀ lo, Lo lo A n → Lo lo A' (n - k)) := by
  refine ⟨if c = k then A else A.map (·.add (k * size)), fun kl w => ?_, fun w B xs hr hl => ?_, fun lo h => lo_cut h⟩
  · have hs : P.elem t = e := by simp [Program.elem, he.1]
    obtain ⟨_, ⟨i, hi, _, hsize, _⟩, _, _⟩ := he
    rw [run_slice_l w t A n c (by rw [hs]; assumption) kl (k : Int) (by omega) (by omega)]
    simp [sizeOf, typeInfo, hs, hi, hsize, sliced]
  · by_cases h : c = k
    · rw [if_pos h, List.drop_of_length_le (by rw [hl]; exact Nat.mul_le_mul_right _ (by omega))]
      exact Rd.nil_ _ _ _
    · rw [if_neg h]
      exact hr.drop _
end Go.Proofs.Ytcbngjpihcemiaa
