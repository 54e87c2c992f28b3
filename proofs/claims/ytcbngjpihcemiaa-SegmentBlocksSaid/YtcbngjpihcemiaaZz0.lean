/- Words for memory, over any program: a slice that reads as a list, one that may be appended to, one block known whole, and what an append does to them. No program in sight. -/
import Derived.WalkKit
import Derived.WalkSpells
import Derived.ArgAppend
import Derived.Maps.AppendAt
import Derived.Deep.AppendLies
import Derived.Deep.Draws
import Derived.Laws.OwnMore
import Derived.Laws.BytesArg
import Derived.Laws.MakeOwn
import Derived.Lib.Hide
import Derived.Laws.BytesString
import Derived.Deep.RegionLaw
import Derived.ProofKit
import Derived.OpenShut
import Derived.ShutString
import Derived.ChangeOld
import Derived.Deep.Slices
import Derived.Deep.Fields
import Derived.SizedLaws
import Derived.Deep.LoopGhost
import Derived.Tactics2
import Derived.LoopN
import Derived.WalkLawsBesides
import Derived.IntWalk
import Derived.ChangeKeysEq
import Derived.Laws.CopyOwn
import Derived.Lib.IndexBytes
import Derived.Laws.Tables
import Derived.Scope
import Derived.OrdersHeld
import Derived.Deep.Quiet
import Derived.Deep.QuietTactic
import Derived.BigQuiet
import Derived.Deep.RegionHeld3
import Derived.BigFrame
namespace Go.Proofs.Ytcbngjpihcemiaa
open Go.RowKit

/-- Bytes as cells. -/
def vb (l : List UInt8) : List Value := l.map fun c => .int .u8 (c.toNat : Int)
theorem vb_length (l : List UInt8) : (vb l).length = l.length := by simp [vb]
theorem vb_nil : vb [] = [] := rfl
theorem vb_cons (c : UInt8) (l : List UInt8) : vb (c :: l) = .int .u8 (c.toNat : Int) :: vb l := rfl
theorem vb_append (a b : List UInt8) : vb (a ++ b) = vb a ++ vb b := by simp [vb]
theorem vb_one (l : List UInt8) : ∀ u ∈ vb l, u.oneCell' = true := by
  intro u hu
  simp only [vb, List.mem_map] at hu
  obtain ⟨c, _, rfl⟩ := hu
  rfl
theorem vb_get (l : List UInt8) (i : Nat) (h : i < l.length) : (vb l)[i]? = some (.int .u8 (l[i].toNat : Int)) := by
  simp [vb, h]
theorem vb_drop (l : List UInt8) (k : Nat) : vb (l.drop k) = (vb l).drop k := by simp [vb, List.map_drop]
theorem vb_take (l : List UInt8) (k : Nat) : vb (l.take k) = (vb l).take k := by simp [vb, List.map_take]
theorem vb_inj {a b : List UInt8} (h : vb a = vb b) : a = b := by
  induction a generalizing b with
  | nil => cases b with
    | nil => rfl
    | cons c b => cases h
  | cons c a ih => cases b with
    | nil => cases h
    | cons d b =>
      simp only [vb_cons, List.cons.injEq, Value.int.injEq, true_and] at h
      obtain ⟨h1, h2⟩ := h
      rw [ih h2, UInt8.toNat_inj.1 (show c.toNat = d.toNat by omega)]

/-- The address A leads to the cells xs, in a block below B (nothing is asked where xs is empty). -/
def Rd (w : World) (B : Nat) (A : Option Addr) (xs : List Value) : Prop :=
  ∀ j u, xs[j]? = some u → ∃ b off, A = some ⟨b, off, none⟩ ∧ b < B ∧ w.cell? ⟨b, off + j, none⟩ = some u

section
variable {w w' : World} {B B' : Nat} {A : Option Addr} {xs : List Value}
theorem Rd.nil_ (w : World) (B : Nat) (A : Option Addr) : Rd w B A [] := fun j u h => by simp at h
theorem Rd.keep (h : Rd w B A xs) (hk : ∀ b, b < B → w'.heap[b]? = w.heap[b]?) : Rd w' B A xs := fun j u hu => by
  obtain ⟨b, off, hA, hb, hc⟩ := h j u hu
  exact ⟨b, off, hA, hb, (World.cell?_of_block (hk b hb)).trans hc⟩
theorem Rd.mono (h : Rd w B A xs) (hB : B ≤ B') : Rd w B' A xs := fun j u hu => by
  obtain ⟨b, off, hA, hb, hc⟩ := h j u hu
  exact ⟨b, off, hA, by omega, hc⟩
theorem Rd.below (h : Rd w B A xs) (hb : Below B w w') : Rd w' B A xs := h.keep hb.block
theorem Rd.drewN (h : Rd w B A xs) (k : Nat) : Rd (w.drewN k) B A xs := h
theorem Rd.alloc (h : Rd w B A xs) (hB : B ≤ w.heap.size) (o : Obj) : Rd (w.alloc o) B A xs := h.keep fun b hb => Below.heap_alloc w o b (by omega)
theorem Rd.grown (h : Rd w B A xs) {row : Option Nat} (hg : w.grownBy w' row) (hB : B ≤ w.heap.size) (hr : ∀ g, row = some g → B ≤ g) : Rd w' B A xs :=
  h.keep fun b hb => hg.block b (by omega) (fun e => by have := hr _ e.symm; omega)
theorem Rd.drop (h : Rd w B A xs) (k : Nat) : Rd w B (A.map (·.add k)) (xs.drop k) := fun j u hu => by
  rw [List.getElem?_drop] at hu
  obtain ⟨b, off, rfl, hb, hc⟩ := h _ u hu
  refine ⟨b, off + k, ?_, hb, by rw [Nat.add_assoc]; exact hc⟩
  simp [Addr.add_lit]
theorem Rd.cut (h : Rd w B A xs) {k cap : Nat} (hc : xs.length ≤ cap) : Rd w B (if cap = k then A else A.map (·.add k)) (xs.drop k) := by
  by_cases e : cap = k
  · rw [if_pos e, List.drop_of_length_le (by omega)]
    exact Rd.nil_ _ _ _
  · rw [if_neg e]
    exact h.drop k
theorem Rd.take (h : Rd w B A xs) (k : Nat) : Rd w B A (xs.take k) := fun j u hu => by
  rw [List.getElem?_take] at hu
  split at hu
  · exact h j u hu
  · cases hu
theorem Rd.pre {ys : List Value} (h : Rd w B A (xs ++ ys)) : Rd w B A xs := by
  have := h.take xs.length
  simpa using this
/-- The address is one, where there is anything. -/
theorem Rd.at_ (h : Rd w B A xs) (hn : 0 < xs.length) : ∃ b off, A = some ⟨b, off, none⟩ ∧ b < B ∧ ∀ j u, xs[j]? = some u → w.cell? ⟨b, off + j, none⟩ = some u := by
  obtain ⟨b, off, rfl, hb, _⟩ := h 0 xs[0] (List.getElem?_eq_getElem hn)
  refine ⟨b, off, rfl, hb, fun j u hu => ?_⟩
  obtain ⟨b', off', e, _, hc'⟩ := h j u hu
  simp only [Option.some.injEq, Addr.mk.injEq] at e
  obtain ⟨rfl, rfl, _⟩ := e
  exact hc'
theorem Rd.add (h : Rd w B A xs) {a : Addr} (hA : A = some a) : ∀ j u, xs[j]? = some u → w.cell? (a.add j) = some u := fun j u hu => by
  obtain ⟨b, off, e, _, hc⟩ := h j u hu
  rw [hA] at e
  simp only [Option.some.injEq] at e
  subst e
  simpa [Addr.add_lit] using hc
theorem Rd.byte {l : List UInt8} (h : Rd w B A (vb l)) {i : Nat} (hi : i < l.length) : ∃ b off, A = some ⟨b, off, none⟩ ∧ b < B ∧ w.cell? ⟨b, off + i, none⟩ = some (.int .u8 (l[i].toNat : Int)) :=
  h i _ (vb_get l i hi)
theorem Rd.of_own {base : Nat} {e : TypeId} {size n c : Nat} (h : w.ownsRow base e size (.slice A n c) n xs) : Rd w w.heap.size A xs := by
  intro j u hu
  have hn : 0 < n := by
    rcases Nat.eq_zero_or_pos n with h0 | h0
    · subst h0
      have := h.1
      simp at this
      subst this
      simp at hu
    · exact h0
  obtain ⟨g, cap, hv, _, hlt⟩ := h.form hn
  have hA : A = some ⟨g, 0, none⟩ := by injection hv
  subst hA
  refine ⟨g, 0, rfl, hlt, ?_⟩
  have := h.cells (g := g) rfl j u hu
  simpa [Addr.add_lit] using this
end

/-- A block that is known whole. -/
def Bk (w : World) (g : Nat) (t : TypeId) (cs : Array Value) : Prop := w.heap[g]? = some (.cells cs t (0, 0))
section
variable {w w' : World} {g : Nat} {t : TypeId} {cs : Array Value}
theorem Bk.lt (h : Bk w g t cs) : g < w.heap.size := by
  unfold Bk at h
  rcases Nat.lt_or_ge g w.heap.size with hlt | hge
  · exact hlt
  · rw [Array.getElem?_eq_none hge] at h
    cases h
theorem Bk.cell (h : Bk w g t cs) (i : Nat) : w.cell? ⟨g, i, none⟩ = cs[i]? := cell_of_row w g i cs t (0, 0) h
theorem Bk.free (h : Bk w g t cs) (i : Nat) : w.frozen? ⟨g, i, none⟩ = false := by
  unfold Bk at h
  simp [World.frozen?, h]
theorem Bk.new (w : World) (t : TypeId) (cs : Array Value) : Bk (w.alloc (.cells cs t)) w.heap.size t cs := heap_alloc_new w _
theorem Bk.drewN (h : Bk w g t cs) (n : Nat) : Bk (w.drewN n) g t cs := h
theorem Bk.alloc (h : Bk w g t cs) (o : Obj) : Bk (w.alloc o) g t cs := (Below.heap_alloc w o g h.lt).trans h
theorem Bk.put (h : Bk w g t cs) (i : Nat) (u : Value) : Bk (w.setCell ⟨g, i, none⟩ u) g t (cs.setIfInBounds i u) := by
  unfold Bk at h ⊢
  simp [World.setCell, Array.getElem?_modify, h]
theorem Bk.far (h : Bk w g t cs) {p : Addr} (hp : g ≠ p.block) (u : Value) : Bk (w.setCell p u) g t cs := (Below.heap_setCell w p u g hp).trans h
theorem Bk.keep (h : Bk w g t cs) (hk : w'.heap[g]? = w.heap[g]?) : Bk w' g t cs := hk.trans h
theorem Bk.below {B : Nat} (h : Bk w g t cs) (hb : Below B w w') (hg : g < B) : Bk w' g t cs := (hb.block g hg).trans h
theorem Bk.grown {row : Option Nat} (h : Bk w g t cs) (hb : w.grownBy w' row) (hg : some g ≠ row) : Bk w' g t cs := (hb.block g h.lt hg).trans h
theorem Bk.ne_ {g' : Nat} {t' : TypeId} {cs' : Array Value} (h : Bk w g t cs) (h' : Bk w g' t' cs') (hne : t ≠ t') : g ≠ g' := by
  rintro rfl
  unfold Bk at h h'
  rw [h] at h'
  injection h' with h'
  injection h' with _ ht
  exact hne ht
end

/-- A slice value of n elements, the cells xs, that may be appended to without a turn of anything below base: it is the call's own, or it has no room. -/
def App (w : World) (base : Nat) (e : TypeId) (size : Nat) (v : Value) (n : Nat) (xs : List Value) : Prop :=
  w.ownsRow base e size v n xs ∨ (xs.length = n * size ∧ ∃ A, v = .slice A n n ∧ (A = none → n = 0) ∧ Rd w w.heap.size A xs)

section
variable {w w' : World} {base size n : Nat} {e : TypeId} {v : Value} {xs : List Value}
theorem App.len (h : App w base e size v n xs) : xs.length = n * size := by
  rcases h with h | h
  · exact h.1
  · exact h.1
theorem App.nil_ (w : World) (base : Nat) (e : TypeId) (size : Nat) : App w base e size (.slice none 0 0) 0 [] := .inl (World.ownsRow_nil _ _ _ _)
theorem App.slice (h : App w base e size v n xs) : ∃ A c, v = .slice A n c ∧ n ≤ c ∧ Rd w w.heap.size A xs := by
  rcases h with h | ⟨_, A, rfl, _, hr⟩
  · have h2 := h.2
    rcases h2 with ⟨rfl, rfl⟩ | ⟨g, cap, cur, rfl, _, _, hn, _⟩
    · exact ⟨none, 0, rfl, Nat.le_refl _, Rd.of_own h⟩
    · exact ⟨_, cap, rfl, hn, Rd.of_own h⟩
  · exact ⟨A, n, rfl, Nat.le_refl _, hr⟩
theorem App.own (h : w.ownsRow base e size v n xs) : App w base e size v n xs := .inl h
theorem own_mono {base' : Nat} (h : w.ownsRow base e size v n xs) (hb : base' ≤ base) : w.ownsRow base' e size v n xs := by
  refine ⟨h.1, ?_⟩
  rcases h.2 with h2 | ⟨g, cap, cur, h1, h2, h3⟩
  · exact .inl h2
  · exact .inr ⟨g, cap, cur, h1, by omega, h3⟩
theorem App.mono {base' : Nat} (h : App w base e size v n xs) (hb : base' ≤ base) : App w base' e size v n xs := by
  rcases h with h | h
  · exact .inl (own_mono h hb)
  · exact .inr h
theorem App.drewN (h : App w base e size v n xs) (k : Nat) : App (w.drewN k) base e size v n xs := h
theorem own_keep (h : w.ownsRow base e size v n xs) (hk : ∀ b, b < w.heap.size → w'.heap[b]? = w.heap[b]?) : w'.ownsRow base e size v n xs := by
  refine ⟨h.1, ?_⟩
  rcases h.2 with h2 | ⟨g, cap, cur, h1, h2, h3, h4⟩
  · exact .inl h2
  · refine .inr ⟨g, cap, cur, h1, h2, ?_, h4⟩
    rw [hk g (Bk.lt (t := e) h3)]
    exact h3
theorem App.keep (h : App w base e size v n xs) (hs : w.heap.size ≤ w'.heap.size) (hk : ∀ b, b < w.heap.size → w'.heap[b]? = w.heap[b]?) : App w' base e size v n xs := by
  rcases h with h | ⟨h1, A, h2, h3, h4⟩
  · exact .inl (own_keep h hk)
  · exact .inr ⟨h1, A, h2, h3, (h4.keep hk).mono hs⟩
theorem App.alloc (h : App w base e size v n xs) (o : Obj) : App (w.alloc o) base e size v n xs := h.keep (by simp) fun b hb => Below.heap_alloc w o b hb
theorem App.below (h : App w base e size v n xs) (hb : Below w.heap.size w w') : App w' base e size v n xs := h.keep hb.size hb.block
end

section
variable {P : Program} (w : World)
theorem run_append_zero (base : Nat) (t ty e : TypeId) (i : TypeInfo) (size : Nat) (ht : P.underlying t = some (.slice e)) (hi : P.info? e = some i)
    (v : Value) (n : Nat) (xs : List Value) (h : App w base e size v n xs) (A : Option Addr) (c : Nat) :
    (Builtin.append_ #[t, t] ty #[v, .slice A 0 c]).run P w = .ok v w := by
  have key : ∀ (A' : Option Addr) (cap : Nat), n ≤ cap → (Builtin.append_ #[t, t] ty #[.slice A' n cap, .slice A 0 c]).run P w = .ok (.slice A' n cap) w := by
    intro A' cap hn
    cases A' <;> cases A <;> simp [Builtin.append_, run_underlying ht, sizeOf, typeInfo, hi, Builtin.lenOf, Builtin.firstCells, hn, storeCells, loadCells, loadCellsFrom]
  obtain ⟨A', cap, rfl, hn, _⟩ := h.slice
  exact key A' cap hn

theorem run_append_app (base : Nat) (t ty e : TypeId) (i : TypeInfo) (z : Value) (size bytes : Nat) (ht : P.underlying t = some (.slice e)) (hi : P.info? e = some i) (hz : i.zero = some z)
    (hsize : i.size = size) (hby : i.bytes = bytes) (hzs : z.cells.size = size) (hsz : 0 < size)
    (v : Value) (n : Nat) (xs : List Value) (h : App w base e size v n xs)
    (B : Nat) (A : Option Addr) (m c : Nat) (news : List Value) (hl : news.length = m * size) (hr : Rd w B A news) (h1 : ∀ u ∈ news, u.oneCell' = true)
    (h63 : n + m ≤ maxLen) (hbytes : (n + m) * bytes ≤ 140737488355328) (hbase : base ≤ w.heap.size) :
    ∃ v' w', (Builtin.append_ #[t, t] ty #[v, .slice A m c]).run P w = .ok v' w' ∧ App w' base e size v' (n + m) (xs ++ news) ∧ (0 < m ∨ w.ownsRow base e size v n xs → w'.ownsRow base e size v' (n + m) (xs ++ news)) ∧
      w.grownBy w' v.ownBlock ∧ Below base w w' ∧ (v'.ownBlock = v.ownBlock ∨ ∃ g, v'.ownBlock = some g ∧ w.heap.size ≤ g) := by
  rcases Nat.eq_zero_or_pos m with h0 | h0
  · subst h0
    obtain rfl : news = [] := List.eq_nil_of_length_eq_zero (by simpa using hl)
    exact ⟨v, w, run_append_zero w base t ty e i size ht hi v n xs h A c, by simpa using h, (fun hh => by simpa using hh.resolve_left (by omega)), World.grownBy.refl w _, Below.refl _ _, .inl rfl⟩
  · have hnl : 0 < news.length := by rw [hl]; exact Nat.mul_pos h0 hsz
    obtain ⟨b, off, rfl, _, hcells⟩ := hr.at_ hnl
    have hc : ∀ j u, news[j]? = some u → w.cell? ((⟨b, off, none⟩ : Addr).add j) = some u := fun j u hu => by
      rw [Addr.add_lit]
      exact hcells j u hu
    rcases h with h | ⟨hlx, A', rfl, hA', hr'⟩
    · obtain ⟨v', w', hrun, h2, h3, _, h5⟩ := run_append_own_at (P := P) w base t ty e i z size bytes ht hi hz hsize hby hzs hsz v n xs h ⟨b, off, none⟩ m c news hl hc h1 h63 hbytes hbase
      refine ⟨v', w', hrun, .inl h2, fun _ => h2, h3, (Below.refl _ _).grown h3 hbase (fun k hk => (h.lt k hk).1), h5.imp id fun h6 => ⟨_, h6, Nat.le_refl _⟩⟩
    · rcases A' with _ | a'
      · obtain rfl := hA' rfl
        obtain rfl : xs = [] := List.eq_nil_of_length_eq_zero (by simpa using hlx)
        obtain ⟨v', w', hrun, h2, h3, _, h5⟩ := run_append_own_at (P := P) w base t ty e i z size bytes ht hi hz hsize hby hzs hsz (.slice none 0 0) 0 [] (World.ownsRow_nil _ _ _ _) ⟨b, off, none⟩ m c news hl hc h1 h63 hbytes hbase
        exact ⟨v', w', hrun, .inl h2, fun _ => h2, h3, (Below.refl _ _).grown h3 hbase (fun k hk => by simp [Value.ownBlock] at hk), h5.imp id fun h6 => ⟨_, h6, Nat.le_refl _⟩⟩
      · obtain ⟨v', w', hrun, h2, h3⟩ := run_append_arg_grows (P := P) w t ty e i z size bytes ht hi hz hsize hby hzs hsz a' n n xs hlx (hr'.add rfl) ⟨b, off, none⟩ m c news hl hc (by omega) h63 hbytes
        have h2' := own_mono h2 hbase
        have hpos : 0 < n + m := by omega
        obtain ⟨g, cap, hv', _, _⟩ := h2.form hpos
        have hg : v'.ownBlock = some g := by rw [hv']; rfl
        refine ⟨v', w', hrun, .inl h2', fun _ => h2', ⟨h3.os, h3.tape, h3.output, h3.size, fun k hk _ => h3.block k hk (by simp)⟩, (Below.refl _ _).grown h3 hbase (fun k hk => by cases hk), ?_⟩
        exact .inr ⟨g, hg, (h2.lt g hg).1⟩
end
/-- What is known of an element's type, and of the slices of it. -/
def Elm (P : Program) (t e : TypeId) (z : Value) (size bytes : Nat) : Prop :=
  P.underlying t = some (.slice e) ∧ (∃ i, P.info? e = some i ∧ i.zero = some z ∧ i.size = size ∧ i.bytes = bytes) ∧ z.cells.size = size ∧ 0 < size
theorem Elm.mk {P : Program} {t e : TypeId} {z : Value} {size bytes : Nat} (ht : P.underlying t = some (.slice e)) (h : (P.info? e).map (fun i => (i.zero, i.size, i.bytes)) = some (some z, size, bytes))
    (h1 : z.cells.size = size) (h2 : 0 < size) : Elm P t e z size bytes := by
  obtain ⟨i, a, b, c, d⟩ := info_parts h
  exact ⟨ht, ⟨i, a, b, c, d⟩, h1, h2⟩

/-- What an append leaves. -/
structure Apd (w w' : World) (base : Nat) (e : TypeId) (size : Nat) (v v' : Value) (n m : Nat) (xs news : List Value) : Prop where
  app : App w' base e size v' (n + m) (xs ++ news)
  own : 0 < m ∨ w.ownsRow base e size v n xs → w'.ownsRow base e size v' (n + m) (xs ++ news)
  grown : w.grownBy w' v.ownBlock
  below : Below base w w'
  blk : v'.ownBlock = v.ownBlock ∨ ∃ g, v'.ownBlock = some g ∧ w.heap.size ≤ g

section
variable {P : Program} (w : World)
theorem wp_append_app {o : Oper} {a : Act} {K : Act → World → Prop} {Q : Exit → Act → World → Prop} (s x : Operand) (t : TypeId)
    (ho : o.op = .call { callee := .builtin .append, args := #[s, x], argTypes := #[t, t] })
    (base : Nat) (e : TypeId) (z : Value) (size bytes : Nat) (he : Elm P t e z size bytes)
    (v : Value) (n : Nat) (xs : List Value) (hs : a.eval s = v) (happ : App w base e size v n xs)
    (B : Nat) (A : Option Addr) (m c : Nat) (news : List Value) (hx : a.eval x = .slice A m c) (hl : news.length = m * size) (hr : Rd w B A news) (h1 : ∀ u ∈ news, u.oneCell' = true)
    (h63 : n + m ≤ maxLen) (hbytes : (n + m) * bytes ≤ 140737488355328) (hbase : base ≤ w.heap.size)
    (h : ∀ v' w', Apd w w' base e size v v' n m xs news → K (a.put o.dst v') w') : o.wp P a w K Q := by
  obtain ⟨ht, ⟨i, hi, hz, hsize, hby⟩, hzs, hsz⟩ := he
  obtain ⟨v', w', hrun, h2, h3, h4, h5, h6⟩ := run_append_app (P := P) w base t o.type e i z size bytes ht hi hz hsize hby hzs hsz v n xs happ B A m c news hl hr h1 h63 hbytes hbase
  unfold Oper.wp execOp
  simp only [ho, resolve, invoke, builtin, Sem.run_bind, Sem.run_pure, Result.andThen_ok, List.map_toArray, List.map_cons, List.map_nil, hs, hx, hrun]
  exact h v' w' ⟨h2, h3, h4, h5, h6⟩

theorem wpList_append_app {ops : Array Oper} {rest : List Oper} {o : Oper} {a : Act} {Q : Exit → Act → World → Prop} (hgd : o.guard = none) (s x : Operand) (t : TypeId)
    (ho : o.op = .call { callee := .builtin .append, args := #[s, x], argTypes := #[t, t] })
    (base : Nat) (e : TypeId) (z : Value) (size bytes : Nat) (he : Elm P t e z size bytes)
    (v : Value) (n : Nat) (xs : List Value) (hs : a.eval s = v) (happ : App w base e size v n xs)
    (B : Nat) (A : Option Addr) (m c : Nat) (news : List Value) (hx : a.eval x = .slice A m c) (hl : news.length = m * size) (hr : Rd w B A news) (h1 : ∀ u ∈ news, u.oneCell' = true)
    (h63 : n + m ≤ maxLen) (hbytes : (n + m) * bytes ≤ 140737488355328) (hbase : base ≤ w.heap.size)
    (h : ∀ v' w', Apd w w' base e size v v' n m xs news → wpList P ops Q rest (a.put o.dst v') w') : wpList P ops Q (o :: rest) a w :=
  wpList_plain hgd fun _ hK => wp_append_app w s x t ho base e z size bytes he v n xs hs happ B A m c news hx hl hr h1 h63 hbytes hbase fun v' w' h2 => hK _ _ (h v' w' h2)

theorem step_append_app {ops : Array Oper} {o : Oper} {a : Act} {K : Act → World → Prop} {Q : Exit → Act → World → Prop} {E : Prop} (hgd : o.guard = none) (s x : Operand) (t : TypeId)
    (ho : o.op = .call { callee := .builtin .append, args := #[s, x], argTypes := #[t, t] })
    (base : Nat) (e : TypeId) (z : Value) (size bytes : Nat) (he : Elm P t e z size bytes)
    (v : Value) (n : Nat) (xs : List Value) (hs : a.eval s = v) (happ : App w base e size v n xs)
    (B : Nat) (A : Option Addr) (m c : Nat) (news : List Value) (hx : a.eval x = .slice A m c) (hl : news.length = m * size) (hr : Rd w B A news) (h1 : ∀ u ∈ news, u.oneCell' = true)
    (h63 : n + m ≤ maxLen) (hbytes : (n + m) * bytes ≤ 140737488355328) (hbase : base ≤ w.heap.size)
    (h : ∀ v' w', Apd w w' base e size v v' n m xs news → K (a.put o.dst v') w') :
    if Region.wanted o (yielded ops a.tmps) = true then Oper.wp P o a w K Q else E := by
  have hw : Region.wanted o (yielded ops a.tmps) = true := by simp [Region.wanted, hgd]
  rw [if_pos hw]
  exact wp_append_app w s x t ho base e z size bytes he v n xs hs happ B A m c news hx hl hr h1 h63 hbytes hbase h

/-- One element, laid in a block of its own ahead of the append. -/
theorem rd_one (x : Value) (t : TypeId) : Rd (w.alloc (.cells #[x] t)) (w.heap.size + 1) (some ⟨w.heap.size, 0, none⟩) [x] := by
  intro j u hj
  match j, hj with
  | 0, hj =>
    simp at hj
    subst hj
    exact ⟨_, _, rfl, by omega, (Bk.new w t #[x]).cell 0⟩
theorem rd_new (cs : Array Value) (t : TypeId) : Rd (w.alloc (.cells cs t)) (w.heap.size + 1) (some ⟨w.heap.size, 0, none⟩) cs.toList := by
  intro j u hj
  refine ⟨_, _, rfl, by omega, ?_⟩
  rw [Nat.zero_add, (Bk.new w t cs).cell j]
  simpa using hj

theorem nums_of_bytes (l : List UInt8) : (l.map fun c => (c.toNat : Int)).foldl (fun (r : ByteArray) n => r.push (UInt8.ofNat n.toNat)) ByteArray.empty = ⟨l.toArray⟩ := by
  rw [foldl_push_bytes]
  simp [ByteArray.empty, ByteArray.emptyWithCapacity, List.map_map, Function.comp_def]
  rfl

theorem run_string_rd (src dst e : TypeId) (hs : P.underlying src = some (.slice e)) (he : P.underlying e = some (.int .u8)) (hd : P.underlying dst = some .string)
    {B : Nat} {A : Option Addr} (n c : Nat) (l : List UInt8) (hl : l.length = n) (h : Rd w B A (vb l)) : (convert src dst (.slice A n c)).run P w = .ok (.string ⟨l.toArray⟩) w := by
  rw [run_convert_bytes_string w src dst e A n c hs he hd]
  rcases A with _ | a
  · have : l = [] := by
      rcases l with _ | ⟨x, l⟩
      · rfl
      · obtain ⟨b, off, hA, _⟩ := h 0 _ rfl
        cases hA
    subst this
    simp [Conv.bytesToString]
    rfl
  · have hb : vb l = (l.map fun c => (c.toNat : Int)).map (Value.int .u8) := by simp [vb]
    have hload : (loadCells a n).run P w = .ok ((l.map fun c => (c.toNat : Int)).map (Value.int .u8)).toArray w := by
      have := run_loadCells_list (P := P) w a (vb l) (h.add rfl)
      rw [vb_length, hl] at this
      rw [this, hb]
    rw [run_bytesToString w a n c _ hload, nums_of_bytes]
end
/-- The same of bytes. -/
def AppB (w : World) (base : Nat) (e : TypeId) (v : Value) (l : List UInt8) : Prop := App w base e 1 v l.length (vb l)
theorem AppB.rd {w : World} {base : Nat} {e : TypeId} {v : Value} {l : List UInt8} (h : AppB w base e v l) : ∃ A c, v = .slice A l.length c ∧ l.length ≤ c ∧ Rd w w.heap.size A (vb l) := App.slice h
theorem AppB.alloc {w : World} {base : Nat} {e : TypeId} {v : Value} {l : List UInt8} (h : AppB w base e v l) (o : Obj) : AppB (w.alloc o) base e v l := App.alloc h o
theorem AppB.below {w w' : World} {base : Nat} {e : TypeId} {v : Value} {l : List UInt8} (h : AppB w base e v l) (hb : Below w.heap.size w w') : AppB w' base e v l := App.below h hb
theorem AppB.mono {w : World} {base base' : Nat} {e : TypeId} {v : Value} {l : List UInt8} (h : AppB w base e v l) (hb : base' ≤ base) : AppB w base' e v l := App.mono h hb
theorem AppB.nil_ (w : World) (base : Nat) (e : TypeId) : AppB w base e (.slice none 0 0) [] := App.nil_ _ _ _ _
theorem AppB.clip {w : World} {base : Nat} {e : TypeId} {A : Option Addr} {n : Nat} {l : List UInt8} (hl : l.length = n) (hA : A = none → n = 0) (hr : Rd w w.heap.size A (vb l)) : AppB w base e (.slice A n n) l := by
  subst hl
  exact .inr ⟨by rw [vb_length]; omega, A, rfl, hA, hr⟩

section
variable {P : Program} (w : World)
theorem wpList_append_byte {ops : Array Oper} {rest : List Oper} {o : Oper} {a : Act} {Q : Exit → Act → World → Prop} (hgd : o.guard = none) (s x : Operand) (t : TypeId)
    (ho : o.op = .call { callee := .builtin .append, args := #[s, x], argTypes := #[t, t] })
    (base : Nat) (e : TypeId) (z : Value) (he : Elm P t e z 1 1)
    (v : Value) (l : List UInt8) (hs : a.eval s = v) (happ : AppB w base e v l) (c : Int) (hx : a.eval x = .slice (some ⟨w.heap.size, 0, none⟩) 1 1)
    (hsz : l.length + 1 ≤ 140737488355328) (hbase : base ≤ w.heap.size) (hc : 0 ≤ c ∧ c < 256)
    (h : ∀ v' w', AppB w' base e v' (l ++ [UInt8.ofNat c.toNat]) → Below base w w' → w.grownBy w' v.ownBlock → wpList P ops Q rest (a.put o.dst v') w') :
    wpList P ops Q (o :: rest) a (w.alloc (.cells #[.int .u8 c] e)) := by
  refine wpList_append_app _ hgd s x t ho base e z 1 1 he v l.length (vb l) hs (App.alloc happ _) (w.heap.size + 1) _ 1 1 [.int .u8 c] hx rfl (rd_one w _ _) (by intro u hu; simp at hu; subst hu; rfl) (by simp only [maxLen]; omega) (by omega) (by simp; omega) fun v' w' hA => ?_
  have hcv : (Value.int .u8 c) = .int .u8 ((UInt8.ofNat c.toNat).toNat : Int) := by
    have : (UInt8.ofNat c.toNat).toNat = c.toNat := by simp; omega
    rw [this, Int.toNat_of_nonneg hc.1]
  refine h v' w' ?_ (((Below.refl _ _).alloc hbase _).trans hA.below) ((World.grownBy_alloc w _ _).trans hA.grown)
  have := hA.app
  rw [hcv] at this
  unfold AppB
  rw [vb_append, List.length_append]
  exact this

theorem wpList_append_bytes {ops : Array Oper} {rest : List Oper} {o : Oper} {a : Act} {Q : Exit → Act → World → Prop} (hgd : o.guard = none) (s x : Operand) (t : TypeId)
    (ho : o.op = .call { callee := .builtin .append, args := #[s, x], argTypes := #[t, t] })
    (base : Nat) (e : TypeId) (z : Value) (he : Elm P t e z 1 1)
    (v : Value) (l : List UInt8) (hs : a.eval s = v) (happ : AppB w base e v l) (B : Nat) (A : Option Addr) (m c : Nat) (news : List UInt8) (hx : a.eval x = .slice A m c) (hm : news.length = m) (hr : Rd w B A (vb news))
    (hsz : l.length + m ≤ 140737488355328) (hbase : base ≤ w.heap.size)
    (h : ∀ v' w', AppB w' base e v' (l ++ news) → Below base w w' → w.grownBy w' v.ownBlock → wpList P ops Q rest (a.put o.dst v') w') :
    wpList P ops Q (o :: rest) a w := by
  refine wpList_append_app _ hgd s x t ho base e z 1 1 he v l.length (vb l) hs happ B _ m c (vb news) hx (by rw [vb_length]; omega) hr (vb_one _) (by simp only [maxLen]; omega) (by omega) hbase fun v' w' hA => ?_
  refine h v' w' ?_ hA.below hA.grown
  have := hA.app
  unfold AppB
  rw [vb_append, List.length_append, hm]
  exact this
end
/-- The same, of all blocks that are there. -/
theorem Rd.new (w : World) (cs : Array Value) (t : TypeId) : Rd (w.alloc (.cells cs t)) (w.alloc (.cells cs t)).heap.size (some ⟨w.heap.size, 0, none⟩) cs.toList := (rd_new w cs t).mono (by simp)
theorem Rd.alloc_ {w : World} {A : Option Addr} {xs : List Value} (h : Rd w w.heap.size A xs) (o : Obj) : Rd (w.alloc o) (w.alloc o).heap.size A xs := (h.alloc (Nat.le_refl _) o).mono (by simp)
theorem Rd.below_ {w w' : World} {A : Option Addr} {xs : List Value} (h : Rd w w.heap.size A xs) (hb : Below w.heap.size w w') : Rd w' w'.heap.size A xs := (h.below hb).mono hb.size
/-- Steps of a call's own, told of all blocks that were there ahead. -/
theorem below_al {a w : World} (h : Below a.heap.size a w) (o : Obj) : Below a.heap.size a (w.alloc o) := h.alloc h.size o
theorem below_tr {a b c : World} (h : Below a.heap.size a b) (k : Below b.heap.size b c) : Below a.heap.size a c := h.trans (k.mono h.size)
theorem below_drN {B : Nat} {a w : World} (h : Below B a w) (n : Nat) : Below B a (w.drewN n) := ⟨h.os, h.tape, h.output, h.size, h.block⟩
theorem below_put {a w : World} (h : Below a.heap.size a w) {p : Addr} (hp : a.heap.size ≤ p.block) (u : Value) : Below a.heap.size a (w.setCell p u) := h.setCell hp u
theorem Rd.new_drew (w : World) (cs : Array Value) (t : TypeId) : Rd (w.alloc (.cells cs t)).drew (w.alloc (.cells cs t)).drew.heap.size (some ⟨w.heap.size, 0, none⟩) cs.toList := Rd.new w cs t
/-- w' is w with new blocks, and with writes to the blocks F alone. -/
structure Frm (w w' : World) (F : List Nat) : Prop where
  os : w'.os = w.os
  tape : w'.tape = w.tape
  output : w'.output = w.output
  size : w.heap.size ≤ w'.heap.size
  block : ∀ k, k < w.heap.size → k ∉ F → w'.heap[k]? = w.heap[k]?
section
variable {a b c w w' : World} {F G : List Nat}
theorem Frm.refl (w : World) (F : List Nat) : Frm w w F := ⟨rfl, rfl, rfl, Nat.le_refl _, fun _ _ _ => rfl⟩
theorem Frm.of_below (h : Below w.heap.size w w') (F : List Nat) : Frm w w' F := ⟨h.os, h.tape, h.output, h.size, fun k hk _ => h.block k hk⟩
theorem Frm.below {B : Nat} (h : Frm w w' F) (hF : ∀ g ∈ F, B ≤ g) (hB : B ≤ w.heap.size) : Below B w w' :=
  ⟨h.os, h.tape, h.output, h.size, fun k hk => h.block k (by omega) (fun hm => by have := hF k hm; omega)⟩
theorem Frm.tr (h : Frm a b F) (k : Frm b c G) (hG : ∀ g ∈ G, g ∈ F ∨ a.heap.size ≤ g) : Frm a c F :=
  ⟨k.os.trans h.os, k.tape.trans h.tape, k.output.trans h.output, Nat.le_trans h.size k.size, fun i hi hn =>
    (k.block i (Nat.lt_of_lt_of_le hi h.size) (fun hm => (hG i hm).elim hn (fun h2 => by omega))).trans (h.block i hi hn)⟩
theorem Frm.trans (h : Frm a b F) (k : Frm b c F) : Frm a c F := h.tr k fun _ hg => .inl hg
theorem Frm.sub (h : Frm a b F) (hG : ∀ g ∈ F, g ∈ G ∨ a.heap.size ≤ g) : Frm a b G :=
  ⟨h.os, h.tape, h.output, h.size, fun i hi hn => h.block i hi fun hm => (hG i hm).elim hn fun h2 => by omega⟩
theorem Frm.alloc (h : Frm a w F) (o : Obj) : Frm a (w.alloc o) F :=
  ⟨h.os, h.tape, h.output, Nat.le_trans h.size (by simp), fun i hi hn => (Below.heap_alloc w o i (Nat.lt_of_lt_of_le hi h.size)).trans (h.block i hi hn)⟩
theorem Frm.drew (h : Frm a w F) : Frm a w.drew F := ⟨h.os, h.tape, h.output, h.size, h.block⟩
theorem Frm.drewN (h : Frm a w F) (n : Nat) : Frm a (w.drewN n) F := ⟨h.os, h.tape, h.output, h.size, h.block⟩
theorem Frm.put (h : Frm a w F) {p : Addr} (hp : p.block ∈ F ∨ a.heap.size ≤ p.block) (u : Value) : Frm a (w.setCell p u) F :=
  ⟨h.os, h.tape, h.output, by simpa [World.setCell] using h.size, fun i hi hn => (Below.heap_setCell w p u i (by
    rintro rfl
    rcases hp with hp | hp
    · exact hn hp
    · omega)).trans (h.block i hi hn)⟩
theorem Frm.grown {row : Option Nat} (h : Frm a w F) (k : w.grownBy w' row) (hr : ∀ g, row = some g → g ∈ F ∨ a.heap.size ≤ g) : Frm a w' F :=
  ⟨k.os.trans h.os, k.tape.trans h.tape, k.output.trans h.output, Nat.le_trans h.size k.size, fun i hi hn =>
    (k.block i (Nat.lt_of_lt_of_le hi h.size) (fun e => (hr i e.symm).elim hn (fun h2 => by omega))).trans (h.block i hi hn)⟩
theorem Bk.frm {g : Nat} {t : TypeId} {cs : Array Value} (h : Bk w g t cs) (k : Frm w w' F) (hg : g ∉ F) : Bk w' g t cs := (k.block g h.lt hg).trans h
theorem Rd.frm {B : Nat} {A : Option Addr} {xs : List Value} (h : Rd w B A xs) (k : Frm w w' F) (hB : B ≤ w.heap.size) (hF : ∀ g ∈ F, B ≤ g) : Rd w' B A xs := h.below (k.below hF hB)
end
theorem max_int2 (ats : Array TypeId) (ty : TypeId) (k k' : IntKind) (x y : Int) : Builtin.max_ ats ty #[.int k x, .int k' y] = pure (.int k (max x y)) := by
  have h : (if x < y then y else x) = max x y := by omega
  simp [Builtin.max_, Builtin.max2, ← h]
theorem min_int2 (ats : Array TypeId) (ty : TypeId) (k k' : IntKind) (x y : Int) : Builtin.min_ ats ty #[.int k x, .int k' y] = pure (.int k (min x y)) := by
  have h : (if y < x then y else x) = min x y := by omega
  simp [Builtin.min_, Builtin.min2, ← h]

/-- A slice that is not empty lies from block lo on. -/
def Lo (lo : Nat) (A : Option Addr) (n : Nat) : Prop := ∀ a, A = some a → 0 < n → lo ≤ a.block
theorem Lo.mono {lo lo' n : Nat} {A : Option Addr} (h : Lo lo A n) (hl : lo' ≤ lo) : Lo lo' A n := fun a ha hn => Nat.le_trans hl (h a ha hn)
theorem lo_cut {lo n k c s : Nat} {A : Option Addr} (h : Lo lo A n) : Lo lo (if c = k then A else A.map (·.add s)) (n - k) := by
  intro a ha hp
  split at ha
  · exact h a ha (by omega)
  · cases A with
    | none => cases ha
    | some b =>
      simp only [Option.map_some, Option.some.injEq] at ha
      subst ha
      have := h b rfl (by omega)
      unfold Addr.add
      split <;> exact this
theorem lo_own {w : World} {base size n c : Nat} {e : TypeId} {A : Option Addr} {xs : List Value} (h : w.ownsRow base e size (.slice A n c) n xs) : Lo base A n := fun a ha _ => (h.lt a.block (by rw [ha]; rfl)).1

theorem elm_elem {P : Program} {t e : TypeId} {z : Value} {size bytes : Nat} (he : Elm P t e z size bytes) : P.underlying t = some (.slice (P.elem t)) := by
  have h := he.1
  have : P.elem t = e := by simp [Program.elem, h]
  rw [this]
  exact h
/-- 's[k:]', whatever the capacity. -/
theorem cut_lo {P : Program} {t e : TypeId} {z : Value} {size bytes : Nat} (he : Elm P t e z size bytes) (A : Option Addr) (n c k : Nat) (hk : k ≤ n) (hc : n ≤ c) (_hm : c ≤ maxLen) :
    ∃ A', (∀ (kl : IntKind) (w : World), (Instr.slice t (.slice A n c) (some (.int kl (k : Int))) none none).run P w = .ok (.slice A' (n - k) (c - k)) w) ∧
      (∀ (w : World) (B : Nat) (xs : List Value), Rd w B A xs → xs.length = n * size → Rd w B A' (xs.drop (k * size))) ∧ (∀ lo, Lo lo A n → Lo lo A' (n - k)) := by
  refine ⟨if c = k then A else A.map (·.add (k * size)), fun kl w => ?_, fun w B xs hr hl => ?_, fun lo h => lo_cut h⟩
  · have hs : P.elem t = e := by simp [Program.elem, he.1]
    obtain ⟨_, ⟨i, hi, _, hsize, _⟩, _, _⟩ := he
    rw [run_slice_l w t A n c (by rw [hs]; assumption) kl (k : Int) (by omega) (by omega)]
    simp [sizeOf, typeInfo, hs, hi, hsize, sliced]
  · by_cases h : c = k
    · rw [if_pos h, List.drop_of_length_le (by rw [hl]; exact Nat.mul_le_mul_right _ (by omega))]
      exact Rd.nil_ _ _ _
    · rw [if_neg h]
      exact hr.drop _
end Go.Proofs.Ytcbngjpihcemiaa

/- What came in, opened for a walk: a slice of bytes, of whole numbers; over any program. -/
namespace Go.Proofs.Ytcbngjpihcemiaa
open Go.RowKit Go.ChangeShapes Go.WideShapes Go.ChangeAt

section
variable {H : Type} {enc : TypeId × Value → H} {P : Program} {w : World}

/-- Whole numbers of a kind as cells. -/
def vi (k : IntKind) (l : List Int) : List Value := l.map fun n => .int k n

theorem open_nums {t e : TypeId} {k : IntKind} {b0 : Nat} {v : Value} {d : DataW H} {p : List MemPlace} (ht : P.underlying t = some (.slice e)) (he : P.underlying e = some (.int k)) (hC : P.cellsOf e = 1)
    (hv : Value.okWide P w .any b0 t v) (h : DataW.Trod enc P w 0 (fun _ => true) true t v d p) :
    ∃ (A : Option Addr) (n c : Nat) (l : List Int), v = .slice A n c ∧ l.length = n ∧ n ≤ c ∧ c ≤ maxLen ∧ (A = none → n = 0 ∧ c = 0) ∧ Rd w w.heap.size A (vi k l) ∧ ∀ x ∈ l, (Lit.int k x).wf = true := by
  obtain ⟨A, n, c, rfl⟩ := okWide_slice ht hv
  have hk := h
  have hlt : ∀ x ∈ p, x.block < w.heap.size := by obtain ⟨m, hm⟩ := hk; exact DataW.trod_lt m _ _ _ hm
  obtain ⟨fuel, hf⟩ := h
  rcases open_ints ht he hC hf with ⟨hcs, _⟩ | ⟨x, ln, cp, zs, hcs, _, hl, hm, hz, hx, hcell, hwz⟩
  · simp [Value.cells] at hcs
    obtain ⟨rfl, rfl, rfl⟩ := hcs
    exact ⟨none, 0, 0, [], rfl, rfl, Nat.le_refl _, by simp [maxLen], fun _ => ⟨rfl, rfl⟩, Rd.nil_ _ _ _, by simp⟩
  · simp [Value.cells] at hcs
    obtain ⟨rfl, rfl, rfl⟩ := hcs
    have hz' : zs.length = c := by simpa using hz
    refine ⟨some x, n, c, zs.take n, rfl, by rw [List.length_take]; omega, hl, hm, (fun h => by cases h), ?_, fun y hy => hwz y (List.mem_of_mem_take hy)⟩
    intro j u hu
    have hj : j < zs.length := by
      simp only [vi, List.getElem?_map, List.getElem?_take] at hu
      split at hu
      · rename_i hjn
        omega
      · simp at hu
    have hc := hcell j hj
    obtain ⟨b, off, spot⟩ := x
    have hspot : spot = none := by
      have h0 := hcell 0 (by omega)
      simpa [Addr.add] using World.cell?_spot h0
    subst hspot
    refine ⟨b, off, rfl, ?_, ?_⟩
    · rw [Addr.add_lit] at hc
      exact World.block_lt_of_cell? w _ hc
    · rw [Addr.add_lit] at hc
      rw [hc]
      simp only [vi, List.getElem?_map, List.getElem?_take] at hu
      split at hu
      · rw [List.getD_eq_getElem?_getD]
        rw [List.getElem?_eq_getElem hj] at hu ⊢
        simpa using hu
      · simp at hu

theorem wf_u8 {x : Int} (h : (Lit.int .u8 x).wf = true) : 0 ≤ x ∧ x < 256 := by
  have := bounds_u8 h
  omega

theorem open_bytes {t e : TypeId} {b0 : Nat} {v : Value} {d : DataW H} {p : List MemPlace} (ht : P.underlying t = some (.slice e)) (he : P.underlying e = some (.int .u8)) (hC : P.cellsOf e = 1)
    (hv : Value.okWide P w .any b0 t v) (h : DataW.Trod enc P w 0 (fun _ => true) true t v d p) :
    ∃ (A : Option Addr) (n c : Nat) (l : List UInt8), v = .slice A n c ∧ l.length = n ∧ n ≤ c ∧ c ≤ maxLen ∧ (A = none → n = 0 ∧ c = 0) ∧ Rd w w.heap.size A (vb l) := by
  obtain ⟨A, n, c, zs, hv', hl, hn, hm, hA, hr, hw⟩ := open_nums ht he hC hv h
  refine ⟨A, n, c, zs.map fun x => UInt8.ofNat x.toNat, hv', by simpa using hl, hn, hm, hA, ?_⟩
  have e : vb (zs.map fun x => UInt8.ofNat x.toNat) = vi .u8 zs := by
    simp only [vb, vi, List.map_map]
    refine List.map_congr_left fun x hx => ?_
    have hb := wf_u8 (hw x hx)
    have h2 : (UInt8.ofNat x.toNat).toNat = x.toNat := by simp; omega
    show Value.int .u8 ((UInt8.ofNat x.toNat).toNat : Int) = _
    rw [h2, Int.toNat_of_nonneg hb.1]
  rw [e]
  exact hr

theorem flat_get {α : Type} {f : α → List Value} {C : Nat} (hf : ∀ a, (f a).length = C) : ∀ (l : List α) (j : Nat) (u : Value), (l.flatMap f)[j]? = some u → ∃ i r a, l[i]? = some a ∧ (f a)[r]? = some u ∧ j = i * C + r
  | [], j, u, h => by simp at h
  | a :: l, j, u, h => by
    rw [List.flatMap_cons, List.getElem?_append] at h
    split at h
    · exact ⟨0, j, a, rfl, h, by simp⟩
    · rename_i hj
      rw [hf] at h hj
      obtain ⟨i, r, b, h1, h2, h3⟩ := flat_get hf l _ u h
      exact ⟨i + 1, r, b, h1, h2, by rw [Nat.add_mul]; omega⟩

theorem list_of {α : Type} {Q : Nat → α → Prop} : ∀ n : Nat, (∀ i, i < n → ∃ a, Q i a) → ∃ l : List α, l.length = n ∧ ∀ i a, l[i]? = some a → Q i a
  | 0, _ => ⟨[], rfl, fun i a h => by simp at h⟩
  | n + 1, h => by
    obtain ⟨l, h1, h2⟩ := list_of n fun i hi => h i (by omega)
    obtain ⟨a, ha⟩ := h n (by omega)
    refine ⟨l ++ [a], by simp [h1], fun i b hb => ?_⟩
    rw [List.getElem?_append] at hb
    split at hb
    · exact h2 i b hb
    · rename_i hi
      have : i = n := by
        rcases Nat.lt_or_ge (i - l.length) 1 with h3 | h3
        · omega
        · rw [List.getElem?_eq_none (by simpa using h3)] at hb
          cases hb
      subst this
      rw [h1] at hb
      simp at hb
      subst hb
      exact ha

/-- A slice whose elements' cells are f a, for an a that is ok. -/
theorem open_list {α : Type} {t e : TypeId} {b0 : Nat} {v : Value} {d : DataW H} {p : List MemPlace} (f : α → List Value) (ok : α → Prop) (ht : P.underlying t = some (.slice e)) (hf : ∀ a, (f a).length = P.cellsOf e)
    (he : ∀ (fuel : Nat) (cs : List Value) (x : DataW H × List MemPlace), DataW.trod enc P w 0 (fun _ => true) true fuel e cs = some x → ∃ a, cs = f a ∧ ok a)
    (hv : Value.okWide P w .any b0 t v) (h : DataW.Trod enc P w 0 (fun _ => true) true t v d p) :
    ∃ (A : Option Addr) (n c : Nat) (l : List α), v = .slice A n c ∧ l.length = n ∧ n ≤ c ∧ c ≤ maxLen ∧ (A = none → n = 0 ∧ c = 0) ∧ Rd w w.heap.size A (l.flatMap f) ∧ ∀ a ∈ l, ok a := by
  obtain ⟨A, n, c, rfl⟩ := okWide_slice ht hv
  obtain ⟨fuel, hfu⟩ := h
  rcases Go.Deep.open_slice ht hfu with ⟨hcs, _⟩ | ⟨x, ln, cp, m, n', D, Pl, hcs, _, hl, hm, hmm, _, hi⟩
  · simp [Value.cells] at hcs
    obtain ⟨rfl, rfl, rfl⟩ := hcs
    exact ⟨none, 0, 0, [], rfl, rfl, Nat.le_refl _, by simp [maxLen], fun _ => ⟨rfl, rfl⟩, Rd.nil_ _ _ _, by simp⟩
  · simp [Value.cells] at hcs
    obtain ⟨rfl, rfl, rfl⟩ := hcs
    have hm' : m = c := by simpa using hmm
    subst hm'
    obtain ⟨l, hl1, hl2⟩ := list_of (Q := fun i a => (∀ r u, (f a)[r]? = some u → w.cell? ((x.add (i * P.cellsOf e)).add r) = some u) ∧ ok a) n (fun i hin => by
      obtain ⟨cs', hc, htr⟩ := hi i (by omega)
      obtain ⟨a, rfl, hok⟩ := he _ _ _ htr
      obtain ⟨_, _, hat⟩ := World.cells?_some hc
      refine ⟨a, fun r u hr => ?_, hok⟩
      have hlt : r < (f a).length := by
        rcases Nat.lt_or_ge r (f a).length with h1 | h1
        · exact h1
        · rw [List.getElem?_eq_none h1] at hr
          cases hr
      rw [hat r (by rw [← hf a]; exact hlt)]
      exact hr)
    refine ⟨some x, n, m, l, rfl, hl1, hl, hm, (fun h => by cases h), ?_, fun a ha => ?_⟩
    · intro j u hu
      obtain ⟨i, r, a, h1, h2, rfl⟩ := flat_get hf l j u hu
      have hc := (hl2 i a h1).1 r u h2
      rw [Go.Deep.add_add] at hc
      obtain ⟨b, off, spot⟩ := x
      have hspot : spot = none := by
        rcases Nat.eq_zero_or_pos m with h0 | h0
        · have hlt : i < l.length := by
            rcases Nat.lt_or_ge i l.length with h1' | h1'
            · exact h1'
            · rw [List.getElem?_eq_none h1'] at h1
              cases h1
          omega
        · obtain ⟨cs', hc0, htr⟩ := hi 0 h0
          obtain ⟨_, hlen, hat⟩ := World.cells?_some hc0
          have hpos : 0 < P.cellsOf e := by
            rcases Nat.eq_zero_or_pos (P.cellsOf e) with h9 | h9
            · rw [← hf a] at h9
              have : f a = [] := List.eq_nil_of_length_eq_zero h9
              rw [this] at h2
              simp at h2
            · exact h9
          have h9 := hat 0 hpos
          rw [List.getElem?_eq_getElem (show 0 < cs'.length by omega)] at h9
          simpa [Addr.add] using World.cell?_spot h9
      subst hspot
      rw [Addr.add_lit] at hc
      exact ⟨b, off, rfl, World.block_lt_of_cell? w _ hc, hc⟩
    · obtain ⟨i, hi2, hia⟩ := List.getElem_of_mem ha
      exact (hl2 i a (by rw [List.getElem?_eq_getElem hi2, hia])).2

/-- A field of a struct of one-cell fields. -/
theorem open_fields {e fuel : Nat} {fs : Array Field} {cs : List Value} {x : DataW H × List MemPlace} (he : P.underlying e = some (.struct fs)) (hone : Go.Deep.oneCellFields P fs = true) (hC : P.cellsOf e = fs.size)
    (h : DataW.trod enc P w 0 (fun _ => true) true fuel e cs = some x) :
    cs.length = fs.size ∧ ∀ (j : Nat) (f : Field), fs[j]? = some f → ∃ v m y, cs[j]? = some v ∧ DataW.trod enc P w 0 (fun _ => true) true m f.type [v] = some y := by
  obtain ⟨ys, n', hn', hy, hlen, hyl, hf⟩ := DataW.trod_struct he h
  refine ⟨by omega, fun j f hj => ?_⟩
  obtain ⟨ho, hk⟩ := Go.Deep.hone_of hone j f hj
  have hjl : j < fs.size := (Array.getElem?_eq_some_iff.1 hj).1
  have hv : cs[j]? = some (cs[j]'(by omega)) := List.getElem?_eq_getElem (by omega)
  have h1 := hf j f hj
  rw [ho, hk] at h1
  have hone' : (cs.drop j).take 1 = [cs[j]'(by omega)] := by
    rw [List.drop_eq_getElem_cons (by omega)]
    rfl
  rw [hone'] at h1
  have hys : ys[j]? = some (ys[j]'(by omega)) := List.getElem?_eq_getElem (by omega)
  exact ⟨_, _, _, hv, h1.trans hys⟩
/-- The form's reach: a slice's capacity. -/
theorem cap_reach {t e : TypeId} {A : Option Addr} {n c : Nat} {d : DataW H} {p : List MemPlace} {ts : List TypeId} {ds : List (DataW H)} {j : Nat} (ht : P.underlying t = some (.slice e)) (h : DataW.Trod enc P w 0 (fun _ => true) true t (.slice A n c) d p)
    (hsz : (DataW.weightsEach P ts ds).all (· ≤ reachBytes) = true) (hj : ts[j]? = some t) (hd : ds[j]? = some d) : c * P.bytesOf e ≤ 140737488351232 := by
  obtain ⟨fuel, hf⟩ := h
  rcases Go.Deep.open_slice ht hf with ⟨hcs, hx⟩ | ⟨a, len, cap, m, k, D, Pl, hcs, _, hl, hm, hmm, hx, _⟩
  · simp [Value.cells] at hcs
    obtain ⟨rfl, rfl, rfl⟩ := hcs
    simp
  · simp [Value.cells] at hcs
    obtain ⟨rfl, rfl, rfl⟩ := hcs
    have hm' : m = c := by simpa using hmm
    subst hm'
    injection hx with hx1 hx2
    subst hx1
    have := sized_slice hsz hj hd ht
    simp only [List.length_map, List.length_range, reachBytes] at this
    rw [show n + (m - n) = m by omega] at this
    exact this
/-- Bytes inside a struct. -/
theorem open_bt {t e : TypeId} (ht : P.underlying t = some (.slice e)) (he : P.underlying e = some (.int .u8)) (hC : P.cellsOf e = 1) {fuel : Nat} {v : Value} {x : DataW H × List MemPlace} (h : DataW.trod enc P w 0 (fun _ => true) true fuel t [v] = some x) :
    ∃ (A : Option Addr) (c : Nat) (l : List UInt8), v = .slice A l.length c ∧ l.length ≤ c ∧ c ≤ maxLen ∧ (A = none → l.length = 0 ∧ c = 0) ∧ Rd w w.heap.size A (vb l) := by
  rcases open_ints ht he hC h with ⟨hv, _⟩ | ⟨a, n, c, zs, hv, _, hl, hm, hz, _, hcell, hwz⟩
  · simp only [List.cons.injEq, and_true] at hv
    subst hv
    exact ⟨none, 0, [], rfl, Nat.le_refl _, by simp [maxLen], fun _ => ⟨rfl, rfl⟩, Rd.nil_ _ _ _⟩
  · simp only [List.cons.injEq, and_true] at hv
    subst hv
    have hz' : zs.length = c := by simpa using hz
    have hlen : ((zs.take n).map fun x => UInt8.ofNat x.toNat).length = n := by rw [List.length_map, List.length_take]; omega
    refine ⟨some a, c, (zs.take n).map fun x => UInt8.ofNat x.toNat, by rw [hlen], by rw [hlen]; exact hl, hm, (fun h => by cases h), ?_⟩
    have e : vb ((zs.take n).map fun x => UInt8.ofNat x.toNat) = vi .u8 (zs.take n) := by
      simp only [vb, vi, List.map_map]
      refine List.map_congr_left fun x hx => ?_
      have hb := wf_u8 (hwz x (List.mem_of_mem_take hx))
      have h2 : (UInt8.ofNat x.toNat).toNat = x.toNat := by simp; omega
      show Value.int .u8 ((UInt8.ofNat x.toNat).toNat : Int) = _
      rw [h2, Int.toNat_of_nonneg hb.1]
    rw [e]
    intro j u hu
    have hj : j < zs.length ∧ j < n := by
      simp only [vi, List.getElem?_map, List.getElem?_take] at hu
      split at hu
      · rename_i hjn
        omega
      · simp at hu
    have hc := hcell j hj.1
    obtain ⟨b, off, spot⟩ := a
    have hspot : spot = none := by
      have h0 := hcell 0 (by omega)
      simpa [Addr.add] using World.cell?_spot h0
    subst hspot
    rw [Addr.add_lit] at hc
    refine ⟨b, off, rfl, World.block_lt_of_cell? w _ hc, ?_⟩
    rw [hc]
    simp only [vi, List.getElem?_map, List.getElem?_take, if_pos hj.2] at hu
    rw [List.getD_eq_getElem?_getD, List.getElem?_eq_getElem hj.1] at *
    simpa using hu
end
end Go.Proofs.Ytcbngjpihcemiaa

/- The ghost heap: values up to a renaming of blocks; no program in sight. -/
namespace Go.Proofs.Ytcbngjpihcemiaa
open Go.RowKit

/-- From here on a capacity is not known. -/
def capU : Nat := 9223372036854775808

/-- Ghost and real value, up to a renaming of blocks: the real block, an offset in it, its size, and how many cells an element has. -/
structure Loc where
  g : Nat
  d : Nat
  S : Nat
  z : Nat
abbrev Ren := Nat → Option Loc
mutual
inductive VR (μ : Ren) : Value → Value → Prop
  | bool (b : Bool) : VR μ (.bool b) (.bool b)
  | int (k : IntKind) (n : Int) : VR μ (.int k n) (.int k n)
  | string (s : ByteArray) : VR μ (.string s) (.string s)
  | ptr0 : VR μ (.pointer none) (.pointer none)
  | ptr {i o : Nat} {L : Loc} (h : μ i = some L) : VR μ (.pointer (some ⟨i, o, none⟩)) (.pointer (some ⟨L.g, L.d + o, none⟩))
  | sl0 : VR μ (.slice none 0 0) (.slice none 0 0)
  | sl {i o n c c' : Nat} {a : Addr} {L : Loc} (h : μ i = some L) (hn : n ≤ c') (hm : c' ≤ maxLen) (hc : c < capU → c' = c) (hu : capU ≤ c → L.d + o + c' * L.z ≤ L.S) (ha : 0 < c' → a = ⟨L.g, L.d + o, none⟩) : VR μ (.slice (some ⟨i, o, none⟩) n c) (.slice (some a) n c')
  | nilFunc : VR μ .nilFunc .nilFunc
  | map0 : VR μ (.map none) (.map none)
  | nilIface : VR μ .nilIface .nilIface
  | iface {v v' : Value} (t : TypeId) (h : VR μ v v') : VR μ (.iface t v) (.iface t v')
  | agg {a b : Array Value} (h : VRs μ a.toList b.toList) : VR μ (.agg a) (.agg b)
  | tuple {a b : Array Value} (h : VRs μ a.toList b.toList) : VR μ (.tuple a) (.tuple b)
  | func {a b c d : Array Value} (fn : Fn) (h : VRs μ a.toList b.toList) (h2 : VRs μ c.toList d.toList) : VR μ (.func fn a c) (.func fn b d)
inductive VRs (μ : Ren) : List Value → List Value → Prop
  | nil : VRs μ [] []
  | cons {v v' : Value} {l l' : List Value} (h : VR μ v v') (hs : VRs μ l l') : VRs μ (v :: l) (v' :: l')
end
/-- One renaming goes on as another. -/
def Ext' (μ ν : Ren) : Prop := ∀ i x, μ i = some x → ν i = some x
theorem Ext'.refl (μ : Ren) : Ext' μ μ := fun _ _ h => h
theorem Ext'.trans {μ ν ξ : Ren} (h : Ext' μ ν) (k : Ext' ν ξ) : Ext' μ ξ := fun i x hx => k i x (h i x hx)

mutual
theorem VR.mono {μ ν : Ren} (he : Ext' μ ν) : ∀ {v v' : Value}, VR μ v v' → VR ν v v'
  | _, _, .bool b => .bool b
  | _, _, .int k n => .int k n
  | _, _, .string s => .string s
  | _, _, .ptr0 => .ptr0
  | _, _, .ptr h => .ptr (he _ _ h)
  | _, _, .sl0 => .sl0
  | _, _, .sl h hn hm hc hu ha => .sl (he _ _ h) hn hm hc hu ha
  | _, _, .nilFunc => .nilFunc
  | _, _, .map0 => .map0
  | _, _, .nilIface => .nilIface
  | _, _, .iface t h => .iface t (VR.mono he h)
  | _, _, .agg h => .agg (VRs.mono he h)
  | _, _, .tuple h => .tuple (VRs.mono he h)
  | _, _, .func fn h h2 => .func fn (VRs.mono he h) (VRs.mono he h2)
theorem VRs.mono {μ ν : Ren} (he : Ext' μ ν) : ∀ {l l' : List Value}, VRs μ l l' → VRs ν l l'
  | _, _, .nil => .nil
  | _, _, .cons h hs => .cons (VR.mono he h) (VRs.mono he hs)
end

section
variable {μ : Ren}
theorem VRs.length {l l' : List Value} (h : VRs μ l l') : l.length = l'.length := by
  induction l generalizing l' with
  | nil => cases h; rfl
  | cons v l ih => cases h with
    | cons _ hs => simp [ih hs]
theorem VRs.get {l l' : List Value} (h : VRs μ l l') : ∀ (j : Nat) (v : Value), l[j]? = some v → ∃ v', l'[j]? = some v' ∧ VR μ v v' := by
  induction l generalizing l' with
  | nil => intro j v hj; simp at hj
  | cons u l ih =>
    cases h with
    | cons hu hs =>
      intro j v hj
      cases j with
      | zero => simp at hj; subst hj; exact ⟨_, rfl, hu⟩
      | succ j => exact ih hs j v (by simpa using hj)
theorem VRs.of_get : ∀ {l l' : List Value}, l.length = l'.length → (∀ (j : Nat) (v v' : Value), l[j]? = some v → l'[j]? = some v' → VR μ v v') → VRs μ l l'
  | [], [], _, _ => .nil
  | v :: l, v' :: l', h, hk => .cons (hk 0 v v' rfl rfl) (VRs.of_get (by simpa using h) fun j u u' hu hu' => hk (j + 1) u u' (by simpa using hu) (by simpa using hu'))
theorem VRs.append {a a' b b' : List Value} (h : VRs μ a a') (k : VRs μ b b') : VRs μ (a ++ b) (a' ++ b') := by
  induction a generalizing a' with
  | nil => cases h; exact k
  | cons v a ih => cases h with
    | cons hv hs => exact .cons hv (ih hs)
theorem VRs.take {a a' : List Value} (h : VRs μ a a') (n : Nat) : VRs μ (a.take n) (a'.take n) := by
  induction a generalizing a' n with
  | nil => cases h; simp; exact .nil
  | cons v a ih => cases h with
    | cons hv hs => cases n with
      | zero => exact .nil
      | succ n => exact .cons hv (ih hs n)
theorem VRs.drop {a a' : List Value} (h : VRs μ a a') (n : Nat) : VRs μ (a.drop n) (a'.drop n) := by
  induction a generalizing a' n with
  | nil => cases h; simp; exact .nil
  | cons v a ih => cases h with
    | cons hv hs => cases n with
      | zero => exact .cons hv hs
      | succ n => exact ih hs n
theorem VRs.set {a a' : List Value} {v v' : Value} (h : VRs μ a a') (n : Nat) (hv : VR μ v v') : VRs μ (a.set n v) (a'.set n v') := by
  induction a generalizing a' n with
  | nil => cases h; exact .nil
  | cons u a ih => cases h with
    | cons hu hs => cases n with
      | zero => exact .cons hv hs
      | succ n => exact .cons hu (ih hs n)
theorem VRs.replicate {v v' : Value} (h : VR μ v v') : ∀ n, VRs μ (List.replicate n v) (List.replicate n v')
  | 0 => .nil
  | n + 1 => .cons h (VRs.replicate h n)
theorem VR.cells {v v' : Value} (h : VR μ v v') : VRs μ v.cells.toList v'.cells.toList := by
  cases h <;> first | assumption | exact .cons (by constructor <;> assumption) .nil | exact .cons (by constructor) .nil | skip
/-- What bears no address is itself. -/
def plainB : Value → Bool
  | .bool _ | .int _ _ | .string _ | .pointer none | .slice none 0 0 | .nilFunc | .nilIface | .map none => true
  | _ => false
theorem VR.plain {v : Value} (h : plainB v = true) : VR μ v v := by
  unfold plainB at h
  split at h <;> first | exact absurd h Bool.false_ne_true | constructor
theorem VR.plain_eq {v v' : Value} (h : VR μ v v') (hp : plainB v = true) : v' = v := by
  unfold plainB at hp
  split at hp <;> first | exact absurd hp Bool.false_ne_true | (cases h; rfl)
theorem VRs.plain : ∀ {l : List Value}, (∀ v ∈ l, plainB v = true) → VRs μ l l
  | [], _ => .nil
  | v :: l, h => .cons (VR.plain (h v (by simp))) (VRs.plain fun u hu => h u (by simp [hu]))
theorem VRs.plain_eq {l l' : List Value} (h : VRs μ l l') (hp : ∀ v ∈ l, plainB v = true) : l' = l := by
  induction l generalizing l' with
  | nil => cases h; rfl
  | cons v l ih => cases h with
    | cons hv hs => rw [hv.plain_eq (hp v (by simp)), ih hs fun u hu => hp u (by simp [hu])]
theorem vb_plain (l : List UInt8) : ∀ v ∈ vb l, plainB v = true := by
  intro v hv
  simp only [vb, List.mem_map] at hv
  obtain ⟨c, _, rfl⟩ := hv
  rfl
theorem VRs.bytes {l : List UInt8} {l' : List Value} (h : VRs μ (vb l) l') : l' = vb l := h.plain_eq (vb_plain l)
theorem VR.one {v v' : Value} (h : VR μ v v') (h1 : v.oneCell' = true) : v'.oneCell' = true := by
  cases h <;> first | rfl | exact h1
theorem VRs.one {l l' : List Value} (h : VRs μ l l') (h1 : ∀ v ∈ l, v.oneCell' = true) : ∀ v ∈ l', v.oneCell' = true := by
  induction l generalizing l' with
  | nil => cases h; simp
  | cons u l ih => cases h with
    | cons hv hs =>
      intro v hm
      rcases List.mem_cons.1 hm with rfl | hm
      · exact hv.one (h1 u (by simp))
      · exact ih hs (fun x hx => h1 x (by simp [hx])) v hm
end

@[simp] theorem vb_len_ (l : List UInt8) : (vb l).length = l.length := vb_length l
/-- A block of the ghost heap: its type, how many cells an element has, its cells, and whether it may be written. -/
structure Blk where
  t : TypeId
  z : Nat
  cs : List Value
  rw : Bool
/-- A heap; a block that isn't there any more, or not known, is none. -/
abbrev Hp := List (Option Blk)
def Hp.at (H : Hp) (i : Nat) : Option Blk := (H[i]?).getD none
def Hp.put (H : Hp) (i : Nat) (b : Blk) : Hp := H.set i (some b)
def Hp.kill (H : Hp) (i : Nat) : Hp := H.set i none
def Hp.push (H : Hp) (b : Blk) : Hp := H ++ [some b]
section
variable {H : Hp} {i j : Nat} {b c : Blk}
theorem Hp.at_lt (h : H.at i = some b) : i < H.length := by
  unfold Hp.at at h
  rcases Nat.lt_or_ge i H.length with h1 | h1
  · exact h1
  · rw [List.getElem?_eq_none h1] at h
    cases h
theorem Hp.at_put_eq (h : i < H.length) : (H.put i b).at i = some b := by
  unfold Hp.at Hp.put
  rw [List.getElem?_set_self h]
  rfl
theorem Hp.at_put_ne (h : i ≠ j) : (H.put i b).at j = H.at j := by
  unfold Hp.at Hp.put
  rw [List.getElem?_set_ne h]
theorem Hp.at_kill_eq : (H.kill i).at i = none := by
  unfold Hp.at Hp.kill
  rcases Nat.lt_or_ge i H.length with h1 | h1
  · rw [List.getElem?_set_self h1]
    rfl
  · rw [List.getElem?_eq_none (by simpa using h1)]
    rfl
theorem Hp.at_kill_ne (h : i ≠ j) : (H.kill i).at j = H.at j := by
  unfold Hp.at Hp.kill
  rw [List.getElem?_set_ne h]
theorem Hp.at_push_lt (h : j < H.length) : (H.push b).at j = H.at j := by
  unfold Hp.at Hp.push
  rw [List.getElem?_append_left h]
theorem Hp.at_push_eq : (H.push b).at H.length = some b := by
  unfold Hp.at Hp.push
  simp
theorem Hp.at_app_lt {G : Hp} (h : j < H.length) : Hp.at (H ++ G) j = H.at j := by
  unfold Hp.at
  rw [List.getElem?_append_left h]
@[simp] theorem Hp.len_put : (H.put i b).length = H.length := by simp [Hp.put]
@[simp] theorem Hp.len_kill : (H.kill i).length = H.length := by simp [Hp.kill]
@[simp] theorem Hp.len_push : (H.push b).length = H.length + 1 := by simp [Hp.push]
theorem Hp.ne (h : H.at i = some b) (k : H.at j = some c) (hne : b.t ≠ c.t) : i ≠ j := by
  rintro rfl
  rw [h] at k
  injection k with k
  exact hne (by rw [k])
end

/-- What the frame holds, the latest first. -/
abbrev Env := List (Nat × Value)
def Env.get : Env → Nat → Option Value
  | [], _ => none
  | (s, v) :: e, t => cond (Nat.beq s t) (some v) (Env.get e t)
theorem Env.get_cons_eq' (s : Nat) (v : Value) (e : Env) : Env.get ((s, v) :: e) s = some v := by simp [Env.get]
theorem Env.sub_nil {env : Env} : ∀ (s : Nat) (v : Value), Env.get [] s = some v → env.get s = some v := fun _ _ h => by cases h
theorem Env.sub_cons {s : Nat} {v : Value} {e env : Env} (h : env.get s = some v) (k : ∀ (t : Nat) (u : Value), e.get t = some u → env.get t = some u) : ∀ (t : Nat) (u : Value), Env.get ((s, v) :: e) t = some u → env.get t = some u := fun t u hu => by
  unfold Env.get at hu
  cases hb : Nat.beq s t with
  | true =>
    rw [hb] at hu
    have := Nat.eq_of_beq_eq_true hb
    subst this
    injection hu with hu
    rw [← hu]
    exact h
  | false =>
    rw [hb] at hu
    exact k t u hu
/-- Frame and ghost frame. -/
structure ER (μ : Ren) (N : Nat) (env : Env) (a : Act) : Prop where
  size : a.tmps.size = N
  defers : a.defers = []
  val : ∀ s v, env.get s = some v → ∃ v', a.tmps[s]? = some v' ∧ VR μ v v'
section
variable {μ ν : Ren} {N : Nat} {env : Env} {a : Act}
theorem ER.mono (h : ER μ N env a) (he : Ext' μ ν) : ER ν N env a :=
  ⟨h.size, h.defers, fun s v hs => let ⟨v', h1, h2⟩ := h.val s v hs; ⟨v', h1, h2.mono he⟩⟩
theorem Env.get_cons_eq (s : Nat) (v : Value) (e : Env) : Env.get ((s, v) :: e) s = some v := by
  simp [Env.get]
theorem Env.get_cons_ne {s t : Nat} (v : Value) (e : Env) (h : s ≠ t) : Env.get ((s, v) :: e) t = Env.get e t := by
  have : Nat.beq s t = false := by
    cases hb : Nat.beq s t with
    | true => exact absurd (Nat.eq_of_beq_eq_true hb) h
    | false => rfl
  simp [Env.get, this]
theorem ER.put (h : ER μ N env a) {d : Nat} (hd : d < N) {v v' : Value} (hv : VR μ v v') : ER μ N ((d, v) :: env) (a.put (some d) v') := by
  refine ⟨by simp [Act.put, h.size], h.defers, fun s u hs => ?_⟩
  by_cases e : d = s
  · subst e
    rw [Env.get_cons_eq] at hs
    injection hs with hs
    subst hs
    refine ⟨v', ?_, hv⟩
    simp [Act.put, h.size, hd]
  · rw [Env.get_cons_ne _ _ e] at hs
    obtain ⟨w, h1, h2⟩ := h.val s u hs
    refine ⟨w, ?_, h2⟩
    simp only [Act.put]
    rw [Array.getElem?_setIfInBounds_ne e]
    exact h1
theorem ER.sub {env' : Env} (h : ER μ N env a) (hs : ∀ s v, env'.get s = some v → env.get s = some v) : ER μ N env' a :=
  ⟨h.size, h.defers, fun s v hv => h.val s v (hs s v hv)⟩
/-- An operand, on the ghost side. -/
def geval (env : Env) : Operand → Option Value
  | .tmp t => env.get t
  | .const v => cond (plainB v) (some v) none
  | .func f => some (.func (.func f) #[] #[])
  | _ => none
theorem ER.eval (h : ER μ N env a) {x : Operand} {v : Value} (hx : geval env x = some v) : VR μ v (a.eval x) := by
  cases x with
  | tmp t =>
    obtain ⟨v', h1, h2⟩ := h.val t v hx
    simp only [Act.eval, Array.getD_eq_getD_getElem?, h1, Option.getD_some]
    exact h2
  | const u =>
    simp only [geval] at hx
    cases hp : plainB u with
    | false => rw [hp] at hx; cases hx
    | true =>
      rw [hp] at hx
      injection hx with hx
      subst hx
      exact VR.plain hp
  | func f =>
    injection hx with hx
    subst hx
    exact .func _ .nil .nil
  | global g => cases hx
end
end Go.Proofs.Ytcbngjpihcemiaa

/- Words for memory, more: a copy of bytes by 'append([]byte{}, b...)'; the shape of what is owned. -/
namespace Go.Proofs.Ytcbngjpihcemiaa
open Go.RowKit

theorem own_shape {w : World} {base size n : Nat} {e : TypeId} {v : Value} {xs : List Value} (h : w.ownsRow base e size v n xs) (hn : n ≤ maxLen) :
    ∃ A c, v = .slice A n c ∧ n ≤ c ∧ c ≤ maxLen ∧ (A = none → n = 0 ∧ c = 0) ∧ Rd w w.heap.size A xs := by
  have h2 := h.2
  rcases h2 with ⟨rfl, rfl⟩ | ⟨g, cap, cur, rfl, _, _, hn, hm, _⟩
  · exact ⟨none, 0, rfl, Nat.le_refl _, hn, fun _ => ⟨rfl, rfl⟩, Rd.of_own h⟩
  · exact ⟨_, cap, rfl, hn, hm, (fun h => by cases h), Rd.of_own h⟩

theorem app_shape {w : World} {base size n : Nat} {e : TypeId} {v : Value} {xs : List Value} (h : App w base e size v n xs) (hn : n ≤ maxLen) :
    ∃ A c, v = .slice A n c ∧ n ≤ c ∧ c ≤ maxLen ∧ (A = none → n = 0) ∧ Rd w w.heap.size A xs := by
  rcases h with h | ⟨_, A, rfl, hA, hr⟩
  · obtain ⟨A, c, h1, h2, h3, h4, h5⟩ := own_shape h hn
    exact ⟨A, c, h1, h2, h3, fun h => (h4 h).1, h5⟩
  · exact ⟨A, n, rfl, Nat.le_refl _, hn, hA, hr⟩

/-- What a copy leaves. -/
structure Cpy (w w' : World) (e : TypeId) (A : Option Addr) (n c : Nat) (l : List UInt8) : Prop where
  own : w'.ownsRow w.heap.size e 1 (.slice A n c) n (vb l)
  cap : n ≤ c
  max : c ≤ maxLen
  nil : A = none → n = 0 ∧ c = 0
  rd : Rd w' w'.heap.size A (vb l)
  below : Below w.heap.size w w'

section
variable {P : Program} (w : World)
theorem wpList_copy_bytes {ops : Array Oper} {rest : List Oper} {o : Oper} {a : Act} {Q : Exit → Act → World → Prop} (hgd : o.guard = none) (s x : Operand) (t : TypeId)
    (ho : o.op = .call { callee := .builtin .append, args := #[s, x], argTypes := #[t, t] })
    (e : TypeId) (z : Value) (he : Elm P t e z 1 1) (hs : a.eval s = .slice (some ⟨w.heap.size, 0, none⟩) 0 0)
    (A : Option Addr) (m c : Nat) (l : List UInt8) (hx : a.eval x = .slice A m c) (hm : l.length = m) (hr : Rd w w.heap.size A (vb l)) (hsz : m ≤ 140737488355328)
    (h : ∀ A' c' w', Cpy w w' e A' m c' l → wpList P ops Q rest (a.put o.dst (.slice A' m c')) w') :
    wpList P ops Q (o :: rest) a (w.alloc (.cells #[] e)) := by
  have hown : (w.alloc (.cells #[] e)).ownsRow w.heap.size e 1 (.slice (some ⟨w.heap.size, 0, none⟩) 0 0) 0 [] := World.ownsRow_made w #[] 0 (Nat.le_refl _) (by simp [maxLen]) rfl
  refine wpList_append_app _ hgd s x t ho w.heap.size e z 1 1 he _ 0 [] hs (.inl hown) _ A m c (vb l) hx (by rw [vb_length]; omega) (hr.alloc_ _) (vb_one _) (by simp only [maxLen]; omega) (by omega) (by simp) fun v' w' hA => ?_
  have ho' : w'.ownsRow w.heap.size e 1 v' m (vb l) := by simpa using hA.own (.inr hown)
  obtain ⟨A', c', rfl, h1, h2, h3, h4⟩ := own_shape ho' (by simp only [maxLen]; omega)
  exact h A' c' w' ⟨ho', h1, h2, h3, h4, (below_al (Below.refl _ _) _).trans hA.below⟩
end
theorem own_prefix {w : World} {base size n m cap g : Nat} {e : TypeId} {xs news : List Value} (h : w.ownsRow base e size (.slice (some ⟨g, 0, none⟩) (n + m) cap) (n + m) (xs ++ news)) (hl : xs.length = n * size) :
    w.ownsRow base e size (.slice (some ⟨g, 0, none⟩) n cap) n xs := by
  rcases h.2 with ⟨h', _⟩ | ⟨g', cap', cur, h', hb, hg, hnc, hcm, hcs, htake⟩
  · simp at h'
  · simp only [Value.slice.injEq, Option.some.injEq, Addr.mk.injEq, and_true, true_and] at h'
    obtain ⟨rfl, rfl⟩ := h'
    refine ⟨hl, .inr ⟨g, cap, cur, rfl, hb, hg, by omega, hcm, hcs, ?_⟩⟩
    have h2 : (cur.toList.take ((n + m) * size)).take (n * size) = (xs ++ news).take (n * size) := by rw [htake]
    rw [List.take_take, Nat.min_eq_left (Nat.mul_le_mul_right _ (by omega)), ← hl, List.take_left] at h2
    rw [← hl]
    exact h2
/-- What an append to one's own row leaves: the new row, and the elder one. -/
structure ApdK (w w' : World) (base : Nat) (e : TypeId) (size g n cap m : Nat) (v' : Value) (xs news : List Value) : Prop where
  own : w'.ownsRow base e size v' (n + m) (xs ++ news)
  old : w'.ownsRow base e size (.slice (some ⟨g, 0, none⟩) n cap) n xs
  grown : w.grownBy w' (some g)
  below : Below base w w'
section
variable {P : Program} (w : World)
theorem wp_append_keep {o : Oper} {a : Act} {K : Act → World → Prop} {Q : Exit → Act → World → Prop} (s x : Operand) (t : TypeId)
    (ho : o.op = .call { callee := .builtin .append, args := #[s, x], argTypes := #[t, t] })
    (base : Nat) (e : TypeId) (z : Value) (size bytes : Nat) (he : Elm P t e z size bytes)
    (g n cap : Nat) (xs : List Value) (hs : a.eval s = .slice (some ⟨g, 0, none⟩) n cap) (hown : w.ownsRow base e size (.slice (some ⟨g, 0, none⟩) n cap) n xs)
    (B : Nat) (A : Option Addr) (m c : Nat) (news : List Value) (hx : a.eval x = .slice A m c) (hm : 0 < m) (hl : news.length = m * size) (hr : Rd w B A news) (h1 : ∀ u ∈ news, u.oneCell' = true)
    (h63 : n + m ≤ maxLen) (hbytes : (n + m) * bytes ≤ 140737488355328) (hbase : base ≤ w.heap.size)
    (h : ∀ v' w', ApdK w w' base e size g n cap m v' xs news → K (a.put o.dst v') w') : o.wp P a w K Q := by
  obtain ⟨ht, ⟨i, hi, hz, hsize, hby⟩, hzs, hsz⟩ := he
  have hnl : 0 < news.length := by rw [hl]; exact Nat.mul_pos hm hsz
  obtain ⟨b, off, rfl, _, hcells⟩ := hr.at_ hnl
  have hc : ∀ j u, news[j]? = some u → w.cell? ((⟨b, off, none⟩ : Addr).add j) = some u := fun j u hu => by
    rw [Addr.add_lit]
    exact hcells j u hu
  have key : ∃ v' w', (Builtin.append_ #[t, t] o.type #[.slice (some ⟨g, 0, none⟩) n cap, .slice (some ⟨b, off, none⟩) m c]).run P w = .ok v' w' ∧ ApdK w w' base e size g n cap m v' xs news := by
    by_cases hroom : n + m ≤ cap
    · obtain ⟨w', hrun, h2, h3⟩ := run_append_fits (P := P) w base t o.type e i size ht hi hsize g n cap xs hown ⟨b, off, none⟩ m c news hl hc h1 hroom
      exact ⟨_, w', hrun, h2, own_prefix h2 hown.1, h3, (Below.refl _ _).grown h3 hbase (fun k hk => by
        injection hk with hk
        subst hk
        exact (hown.lt _ rfl).1)⟩
    · obtain ⟨v', w', hrun, h2, h3⟩ := run_append_arg_grows (P := P) w t o.type e i z size bytes ht hi hz hsize hby hzs hsz ⟨g, 0, none⟩ n cap xs hown.1 (hown.cells rfl) ⟨b, off, none⟩ m c news hl hc (by omega) h63 hbytes
      have hk : ∀ k, k < w.heap.size → w'.heap[k]? = w.heap[k]? := fun k hk => h3.block k hk (by simp)
      exact ⟨v', w', hrun, own_mono h2 hbase, own_keep hown hk, ⟨h3.os, h3.tape, h3.output, h3.size, fun k hk' _ => hk k hk'⟩, (Below.refl _ _).grown h3 hbase (fun k hk => by cases hk)⟩
  obtain ⟨v', w', hrun, hA⟩ := key
  unfold Oper.wp execOp
  simp only [ho, resolve, invoke, builtin, Sem.run_bind, Sem.run_pure, Result.andThen_ok, List.map_toArray, List.map_cons, List.map_nil, hs, hx, hrun]
  exact h v' w' hA
theorem wpList_append_keep {ops : Array Oper} {rest : List Oper} {o : Oper} {a : Act} {Q : Exit → Act → World → Prop} (hgd : o.guard = none) (s x : Operand) (t : TypeId)
    (ho : o.op = .call { callee := .builtin .append, args := #[s, x], argTypes := #[t, t] })
    (base : Nat) (e : TypeId) (z : Value) (size bytes : Nat) (he : Elm P t e z size bytes)
    (g n cap : Nat) (xs : List Value) (hs : a.eval s = .slice (some ⟨g, 0, none⟩) n cap) (hown : w.ownsRow base e size (.slice (some ⟨g, 0, none⟩) n cap) n xs)
    (B : Nat) (A : Option Addr) (m c : Nat) (news : List Value) (hx : a.eval x = .slice A m c) (hm : 0 < m) (hl : news.length = m * size) (hr : Rd w B A news) (h1 : ∀ u ∈ news, u.oneCell' = true)
    (h63 : n + m ≤ maxLen) (hbytes : (n + m) * bytes ≤ 140737488355328) (hbase : base ≤ w.heap.size)
    (h : ∀ v' w', ApdK w w' base e size g n cap m v' xs news → wpList P ops Q rest (a.put o.dst v') w') : wpList P ops Q (o :: rest) a w :=
  wpList_plain hgd fun _ hK => wp_append_keep w s x t ho base e z size bytes he g n cap xs hs hown B A m c news hx hm hl hr h1 h63 hbytes hbase fun v' w' h2 => hK _ _ (h v' w' h2)
end

/-- A text that lies somewhere. -/
structure Tx where
  A : Option Addr
  c : Nat
  l : List UInt8
def Tx.val (x : Tx) : Value := .slice x.A x.l.length x.c
def Tx.ok (w : World) (x : Tx) : Prop := Rd w w.heap.size x.A (vb x.l)
def vt (l : List Tx) : List Value := l.map Tx.val
theorem vt_get {l : List Tx} {i : Nat} {x : Tx} (h : l[i]? = some x) : (vt l)[i]? = some (.slice x.A x.l.length x.c) := by simp [vt, h, Tx.val]
end Go.Proofs.Ytcbngjpihcemiaa

/- The ghost heap and the real one. Over any program. -/
namespace Go.Proofs.Ytcbngjpihcemiaa
open Go.RowKit

/-- Nothing of a row is frozen. -/
def FzOk (fz : Nat × Nat) (n : Nat) : Prop := fz.1 = fz.2 ∨ n ≤ fz.1
/-- The cells cs stand in a row, from d on. -/
def Cel (μ : Ren) (cs : List Value) (rs : Array Value) (d : Nat) : Prop := ∀ (j : Nat) (v : Value), cs[j]? = some v → ∃ v', rs[d + j]? = some v' ∧ VR μ v v'
/-- Ghost and real heap. -/
structure SimH (μ : Ren) (H : Hp) (w : World) : Prop where
  dom : ∀ i b, H.at i = some b → ∃ L rs t fz, μ i = some L ∧ L.z = b.z ∧ w.heap[L.g]? = some (.cells rs t fz) ∧ (b.rw = true → FzOk fz rs.size) ∧ (b.rw = true → rs.size = L.S) ∧ Cel μ b.cs rs L.d ∧ ∀ v ∈ b.cs, v.oneCell' = true
  len : ∀ i L, μ i = some L → i < H.length ∧ L.g < w.heap.size
  inj : ∀ i j b b' L L', H.at i = some b → H.at j = some b' → μ i = some L → μ j = some L' → L.g = L'.g → (b.rw = true ∨ b'.rw = true) → i = j

section real
variable {w : World} {g o : Nat} {rs : Array Value} {t : TypeId} {fz : Nat × Nat} {v : Value}
theorem real_load (h : w.heap[g]? = some (.cells rs t fz)) (hv : rs[o]? = some v) : w.cell? ⟨g, o, none⟩ = some v := by
  simp [World.cell?, h, hv]
theorem real_free (h : w.heap[g]? = some (.cells rs t fz)) (hf : FzOk fz rs.size) (ho : o < rs.size) : w.frozen? ⟨g, o, none⟩ = false := by
  obtain ⟨lo, hi⟩ := fz
  have : ¬ (lo ≤ o ∧ o < hi) := by
    unfold FzOk at hf
    simp only at hf
    omega
  simp only [World.frozen?, h]
  by_cases h1 : lo ≤ o
  · have h2 : ¬ o < hi := fun h2 => this ⟨h1, h2⟩
    simp [h2]
  · simp [h1]
theorem real_set (h : w.heap[g]? = some (.cells rs t fz)) : (w.setCell ⟨g, o, none⟩ v).heap[g]? = some (.cells (rs.setIfInBounds o v) t fz) := by
  simp [World.setCell, Array.getElem?_modify, h]
theorem real_set_ne {k : Nat} (h : k ≠ g) : (w.setCell ⟨g, o, none⟩ v).heap[k]? = w.heap[k]? := Below.heap_setCell w ⟨g, o, none⟩ v k h
theorem real_lt (h : w.heap[g]? = some (.cells rs t fz)) : g < w.heap.size := by
  rcases Nat.lt_or_ge g w.heap.size with h1 | h1
  · exact h1
  · rw [Array.getElem?_eq_none h1] at h
    cases h
end real

section
variable {μ ν : Ren} {H : Hp} {w w' : World} {i : Nat} {b : Blk}
theorem Cel.mono {cs : List Value} {rs : Array Value} {d : Nat} (h : Cel μ cs rs d) (he : Ext' μ ν) : Cel ν cs rs d := fun j v hv => let ⟨v', h1, h2⟩ := h j v hv; ⟨v', h1, h2.mono he⟩
theorem Cel.set {cs : List Value} {rs : Array Value} {d o : Nat} {v v' : Value} (h : Cel μ cs rs d) (ho : o < cs.length) (hv : VR μ v v') : Cel μ (cs.set o v) (rs.setIfInBounds (d + o) v') d := by
  intro j u hu
  by_cases e : o = j
  · subst e
    rw [List.getElem?_set_self ho] at hu
    injection hu with hu
    subst hu
    obtain ⟨x, hx, _⟩ := h o cs[o] (List.getElem?_eq_getElem ho)
    obtain ⟨hlt, _⟩ := Array.getElem?_eq_some_iff.1 hx
    exact ⟨v', by rw [Array.getElem?_setIfInBounds_self_of_lt hlt], hv⟩
  · rw [List.getElem?_set_ne e] at hu
    obtain ⟨u', h1, h2⟩ := h j u hu
    exact ⟨u', by rw [Array.getElem?_setIfInBounds_ne (by omega)]; exact h1, h2⟩
theorem Cel.len {cs : List Value} {rs : Array Value} {d : Nat} (h : Cel μ cs rs d) (h0 : 0 < cs.length) : d + cs.length ≤ rs.size := by
  obtain ⟨v', h1, _⟩ := h (cs.length - 1) _ (List.getElem?_eq_getElem (by omega))
  obtain ⟨hlt, _⟩ := Array.getElem?_eq_some_iff.1 h1
  omega
/-- A run of cells. -/
theorem Cel.run {cs : List Value} {rs : Array Value} {d : Nat} (h : Cel μ cs rs d) (o n : Nat) (hn : o + n ≤ cs.length) : ∃ l', VRs μ ((cs.drop o).take n) l' ∧ l'.length = n ∧ ∀ (j : Nat) (v' : Value), l'[j]? = some v' → rs[d + o + j]? = some v' := by
  induction n generalizing o with
  | zero => exact ⟨[], by simp; exact .nil, rfl, fun j v' hv => by simp at hv⟩
  | succ n ih =>
    obtain ⟨l, h1, h2, h3⟩ := ih (o + 1) (by omega)
    obtain ⟨v', h4, h5⟩ := h o _ (List.getElem?_eq_getElem (show o < cs.length by omega))
    refine ⟨v' :: l, ?_, by simp [h2], fun j u hu => ?_⟩
    · rw [List.drop_eq_getElem_cons (show o < cs.length by omega), List.take_succ_cons]
      exact .cons h5 h1
    · cases j with
      | zero => simp at hu; subst hu; exact h4
      | succ j =>
        have := h3 j u (by simpa using hu)
        rw [show d + o + (j + 1) = d + (o + 1) + j by omega]
        exact this
theorem SimH.cell (hs : SimH μ H w) (hb : H.at i = some b) {o : Nat} {v : Value} (hv : b.cs[o]? = some v) : ∃ L v', μ i = some L ∧ w.cell? ⟨L.g, L.d + o, none⟩ = some v' ∧ VR μ v v' := by
  obtain ⟨L, rs, t, fz, h1, _, h2, _, _, h5, _⟩ := hs.dom i b hb
  obtain ⟨v', h6, h7⟩ := h5 o v hv
  exact ⟨L, v', h1, real_load h2 h6, h7⟩
theorem SimH.run (hs : SimH μ H w) (hb : H.at i = some b) (o n : Nat) (hn : o + n ≤ b.cs.length) : ∃ L l', μ i = some L ∧ VRs μ ((b.cs.drop o).take n) l' ∧ l'.length = n ∧ ∀ (j : Nat) (v' : Value), l'[j]? = some v' → w.cell? ⟨L.g, L.d + o + j, none⟩ = some v' := by
  obtain ⟨L, rs, t, fz, h1, _, h2, _, _, h5, _⟩ := hs.dom i b hb
  obtain ⟨l', h6, h7, h8⟩ := h5.run o n hn
  exact ⟨L, l', h1, h6, h7, fun j v' hv => real_load h2 (h8 j v' hv)⟩
theorem SimH.one (hs : SimH μ H w) (hb : H.at i = some b) : ∀ v ∈ b.cs, v.oneCell' = true := by
  obtain ⟨_, _, _, _, _, _, _, _, _, _, h⟩ := hs.dom i b hb
  exact h
/-- A store into one cell. -/
theorem SimH.set (hs : SimH μ H w) (hb : H.at i = some b) (hrw : b.rw = true) {o : Nat} (ho : o < b.cs.length) {v v' : Value} (hv : VR μ v v') (h1 : v.oneCell' = true) {L : Loc} (hL : μ i = some L) :
    SimH μ (H.put i { b with cs := b.cs.set o v }) (w.setCell ⟨L.g, L.d + o, none⟩ v') := by
  have hlt := Hp.at_lt hb
  refine ⟨fun j c hc => ?_, fun j M hM => ?_, fun j k c c' M M' hj hk hM hM' hg hr => ?_⟩
  · by_cases e : i = j
    · subst e
      rw [Hp.at_put_eq hlt] at hc
      injection hc with hc
      subst hc
      obtain ⟨M, rs, t, fz, q1, q2, q3, q4, q5, q6, q7⟩ := hs.dom i b hb
      rw [hL] at q1
      injection q1 with q1
      subst q1
      refine ⟨L, rs.setIfInBounds (L.d + o) v', t, fz, hL, q2, real_set q3, by simpa using q4, fun h => by simpa using q5 h, q6.set ho hv, fun u hu => ?_⟩
      rcases List.mem_or_eq_of_mem_set hu with hu | rfl
      · exact q7 u hu
      · exact h1
    · rw [Hp.at_put_ne e] at hc
      obtain ⟨M, rs, t, fz, q1, q2, q3, q4, q5, q6, q7⟩ := hs.dom j c hc
      refine ⟨M, rs, t, fz, q1, q2, ?_, q4, q5, q6, q7⟩
      rw [real_set_ne (fun hg => e (hs.inj i j b c L M hb hc hL q1 hg.symm (.inl hrw)))]
      exact q3
  · obtain ⟨q1, q2⟩ := hs.len j M hM
    exact ⟨by rw [Hp.len_put]; exact q1, by simpa [World.setCell] using q2⟩
  · have key : ∀ j c, (H.put i { b with cs := b.cs.set o v }).at j = some c → ∃ c0, H.at j = some c0 ∧ c0.rw = c.rw := fun j c hc => by
      by_cases e : i = j
      · subst e
        rw [Hp.at_put_eq hlt] at hc
        injection hc with hc
        exact ⟨b, hb, by rw [← hc]⟩
      · rw [Hp.at_put_ne e] at hc
        exact ⟨c, hc, rfl⟩
    obtain ⟨c0, e1, e2⟩ := key j c hj
    obtain ⟨c0', e3, e4⟩ := key k c' hk
    exact hs.inj j k c0 c0' M M' e1 e3 hM hM' hg (by rw [e2, e4]; exact hr)
/-- Whatever leaves the blocks as they are. -/
theorem SimH.keep (hs : SimH μ H w) (hz : w.heap.size ≤ w'.heap.size) (hk : ∀ i b L, H.at i = some b → μ i = some L → w'.heap[L.g]? = w.heap[L.g]?) : SimH μ H w' :=
  ⟨fun i b hb => let ⟨L, rs, t, fz, q1, q2, q3, q4⟩ := hs.dom i b hb; ⟨L, rs, t, fz, q1, q2, (hk i b L hb q1).trans q3, q4⟩,
   fun i L hL => let ⟨q1, q2⟩ := hs.len i L hL; ⟨q1, by omega⟩, hs.inj⟩
theorem SimH.below (hs : SimH μ H w) (hb : Below w.heap.size w w') : SimH μ H w' := hs.keep hb.size fun _ _ _ _ hL => hb.block _ (hs.len _ _ hL).2
theorem SimH.drew (hs : SimH μ H w) : SimH μ H w.drew := hs.keep (Nat.le_refl _) fun _ _ _ _ _ => rfl
theorem SimH.kill (hs : SimH μ H w) (i : Nat) : SimH μ (H.kill i) w := by
  have key : ∀ j c, (H.kill i).at j = some c → H.at j = some c := fun j c hc => by
    by_cases e : i = j
    · subst e
      rw [Hp.at_kill_eq] at hc
      cases hc
    · rw [Hp.at_kill_ne e] at hc
      exact hc
  exact ⟨fun j c hc => hs.dom j c (key j c hc), fun j L hL => by rw [Hp.len_kill]; exact hs.len j L hL, fun j k c c' M M' hj hk => hs.inj j k c c' M M' (key j c hj) (key k c' hk)⟩
/-- One renaming more. -/
def Ren.upd (μ : Ren) (i : Nat) (L : Loc) : Ren := fun j => if j = i then some L else μ j
theorem Ren.upd_eq (μ : Ren) (i : Nat) (L : Loc) : μ.upd i L i = some L := if_pos rfl
theorem Ren.upd_ne (μ : Ren) {i j : Nat} (L : Loc) (h : j ≠ i) : μ.upd i L j = μ j := if_neg h
theorem SimH.fresh (hs : SimH μ H w) (L : Loc) : Ext' μ (μ.upd H.length L) := fun i x hx => by
  have := (hs.len i x hx).1
  rw [Ren.upd_ne _ _ (by omega)]
  exact hx
/-- A new block, at a place where no other one is (a new one, or one whose ghost is dead). -/
theorem SimH.add (hs : SimH μ H w) (hz : w.heap.size ≤ w'.heap.size) (b : Blk) (L : Loc) (rs : Array Value) (t : TypeId) (fz : Nat × Nat) (hz1 : L.z = b.z) (hg : w'.heap[L.g]? = some (.cells rs t fz)) (hf : FzOk fz rs.size) (hS : rs.size = L.S)
    (hc : Cel (μ.upd H.length L) b.cs rs L.d) (h1 : ∀ v ∈ b.cs, v.oneCell' = true) (hk : ∀ i c M, H.at i = some c → μ i = some M → M.g ≠ L.g ∧ w'.heap[M.g]? = w.heap[M.g]?) : SimH (μ.upd H.length L) (H.push b) w' := by
  have he := hs.fresh L
  have key : ∀ j c, (H.push b).at j = some c → (j < H.length ∧ H.at j = some c) ∨ (j = H.length ∧ c = b) := fun j c hc => by
    have hlt := Hp.at_lt hc
    rw [Hp.len_push] at hlt
    rcases Nat.lt_or_ge j H.length with h | h
    · rw [Hp.at_push_lt h] at hc
      exact .inl ⟨h, hc⟩
    · obtain rfl : j = H.length := by omega
      rw [Hp.at_push_eq] at hc
      injection hc with hc
      exact .inr ⟨rfl, hc.symm⟩
  refine ⟨fun j c hc' => ?_, fun j M hM => ?_, fun j k c c' M M' hj hk' hM hM' hgg hr => ?_⟩
  · rcases key j c hc' with ⟨hlt, hc'⟩ | ⟨rfl, rfl⟩
    · obtain ⟨M, rs', t', fz', q1, q2, q3, q4, q5, q6, q7⟩ := hs.dom j c hc'
      exact ⟨M, rs', t', fz', he j M q1, q2, (hk j c M hc' q1).2.trans q3, q4, q5, q6.mono he, q7⟩
    · exact ⟨L, rs, t, fz, Ren.upd_eq _ _ _, hz1, hg, fun _ => hf, fun _ => hS, hc, h1⟩
  · rw [Hp.len_push]
    by_cases e : j = H.length
    · subst e
      rw [Ren.upd_eq] at hM
      injection hM with hM
      subst hM
      exact ⟨by omega, real_lt hg⟩
    · rw [Ren.upd_ne _ _ e] at hM
      obtain ⟨q1, q2⟩ := hs.len j M hM
      exact ⟨by omega, by omega⟩
  · rcases key j c hj with ⟨hlt, hj2⟩ | ⟨rfl, rfl⟩
    · rcases key k c' hk' with ⟨hlt', hk2⟩ | ⟨rfl, rfl⟩
      · rw [Ren.upd_ne _ _ (by omega)] at hM hM'
        exact hs.inj j k c c' M M' hj2 hk2 hM hM' hgg hr
      · rw [Ren.upd_eq] at hM'
        injection hM' with hM'
        subst hM'
        rw [Ren.upd_ne _ _ (by omega)] at hM
        exact absurd hgg (hk j c M hj2 hM).1
    · rcases key k c' hk' with ⟨hlt', hk2⟩ | ⟨rfl, rfl⟩
      · rw [Ren.upd_eq] at hM
        injection hM with hM
        subst hM
        rw [Ren.upd_ne _ _ (by omega)] at hM'
        exact absurd hgg.symm (hk k c' M' hk2 hM').1
      · rfl
/-- A block just made. -/
theorem SimH.new (hs : SimH μ H w) (b : Blk) (rs : List Value) (t : TypeId) (hr : VRs μ b.cs rs) (h1 : ∀ v ∈ b.cs, v.oneCell' = true) :
    SimH (μ.upd H.length ⟨w.heap.size, 0, rs.length, b.z⟩) (H.push b) (w.alloc (.cells rs.toArray t)) := by
  refine hs.add (by simp) b ⟨w.heap.size, 0, rs.length, b.z⟩ rs.toArray t (0, 0) rfl (heap_alloc_new w _) (.inl rfl) (by simp) (fun j v hv => ?_) h1 (fun i c M _ hM => ?_)
  · obtain ⟨v', h2, h3⟩ := hr.get j v hv
    exact ⟨v', by simpa using h2, h3.mono (hs.fresh _)⟩
  · have := (hs.len i M hM).2
    exact ⟨by simp only; omega, heap_alloc_old w _ this⟩
end
end Go.Proofs.Ytcbngjpihcemiaa

/- The ghost walk: code. Over any program. -/
namespace Go.Proofs.Ytcbngjpihcemiaa
open Go.RowKit

/-- What a function may write: these blocks, and those that came behind the first n0. -/
structure Ctx where
  F : List Nat
  n0 : Nat
structure Sim (C : Ctx) (w0 : World) (Fr : List Nat) (μ0 μ : Ren) (H : Hp) (w : World) : Prop where
  h : SimH μ H w
  ext : Ext' μ0 μ
  frm : Frm w0 w Fr
  old : ∀ i ∈ C.F, i < C.n0 ∧ ∀ L, μ i = some L → L.g ∈ Fr
  new : ∀ i L, C.n0 ≤ i → μ i = some L → L.g ∈ Fr ∨ w0.heap.size ≤ L.g
  len : C.n0 ≤ H.length
  back : ∀ i L, i < C.n0 → μ i = some L → μ0 i = some L
/-- May a block be written? -/
def Ctx.may (C : Ctx) (i : Nat) : Prop := i ∈ C.F ∨ C.n0 ≤ i
section
variable {C : Ctx} {w0 w : World} {Fr : List Nat} {μ0 μ : Ren} {H : Hp}
theorem Sim.may (s : Sim C w0 Fr μ0 μ H w) {i : Nat} (h : C.may i) {L : Loc} (hL : μ i = some L) : L.g ∈ Fr ∨ w0.heap.size ≤ L.g := by
  rcases h with h | h
  · exact .inl ((s.old i h).2 L hL)
  · exact s.new i L h hL
end

def GPost (N : Nat) (C : Ctx) (w0 : World) (Fr : List Nat) (μ0 : Ren) (Q : Exit → Env → Hp → Prop) : Exit → Act → World → Prop := fun e a w => ∃ μ env H, Sim C w0 Fr μ0 μ H w ∧ ER μ N env a ∧ Q e env H
def GWP (P : Program) (N : Nat) (C : Ctx) (c : Code) (Q : Exit → Env → Hp → Prop) (env : Env) (H : Hp) : Prop :=
  ∀ w0 Fr μ0 μ a w, Sim C w0 Fr μ0 μ H w → ER μ N env a → c.wp P (GPost N C w0 Fr μ0 Q) a w
def GOps (P : Program) (N : Nat) (C : Ctx) (ops : Array Oper) (Q : Exit → Env → Hp → Prop) (l : List Oper) (env : Env) (H : Hp) : Prop :=
  ∀ w0 Fr μ0 μ a w, Sim C w0 Fr μ0 μ H w → ER μ N env a → wpList P ops (GPost N C w0 Fr μ0 Q) l a w
/-- Behind a piece of code comes another one. -/
def gthen (K : Env → Hp → Prop) (Q : Exit → Env → Hp → Prop) : Exit → Env → Hp → Prop
  | .normal, env, H => K env H
  | e, env, H => Q e env H
def gblock (id : Nat) (Q : Exit → Env → Hp → Prop) : Exit → Env → Hp → Prop
  | .exit id', env, H => cond (Nat.beq id' id) (Q .normal env H) (Q (.exit id') env H)
  | e, env, H => Q e env H
section
variable {P : Program} {N : Nat} {C : Ctx} {Q Q' : Exit → Env → Hp → Prop} {env : Env} {H : Hp}
theorem GWP.mono {c : Code} (h : GWP P N C c Q env H) (hq : ∀ e env H, Q e env H → Q' e env H) : GWP P N C c Q' env H := fun w0 Fr μ0 μ a w hs he =>
  wp_mono (h w0 Fr μ0 μ a w hs he) fun _ _ _ ⟨μ', env', H', q1, q2, q3⟩ => ⟨μ', env', H', q1, q2, hq _ _ _ q3⟩
/-- What the frame holds beside may be forgotten. -/
theorem GWP.sub {c : Code} {env' : Env} (h : GWP P N C c Q env' H) (hs : ∀ s v, env'.get s = some v → env.get s = some v) : GWP P N C c Q env H := fun w0 Fr μ0 μ a w hs' he => h w0 Fr μ0 μ a w hs' (he.sub hs)
/-- A block may be forgotten. -/
theorem GWP.kill {c : Code} (i : Nat) (h : GWP P N C c Q env (H.kill i)) : GWP P N C c Q env H := fun w0 Fr μ0 μ a w hs he =>
  h w0 Fr μ0 μ a w ⟨hs.h.kill i, hs.ext, hs.frm, hs.old, hs.new, by rw [Hp.len_kill]; exact hs.len, hs.back⟩ he
theorem GWP.skip (h : Q .normal env H) : GWP P N C .skip Q env H := fun _ _ _ μ _ _ hs he => wp_skip ⟨μ, env, H, hs, he, h⟩
theorem GWP.ret (h : Q .ret env H) : GWP P N C .ret Q env H := fun _ _ _ μ _ _ hs he => wp_ret ⟨μ, env, H, hs, he, h⟩
theorem GWP.exit {id : Nat} (h : Q (.exit id) env H) : GWP P N C (.exit id) Q env H := fun _ _ _ μ _ _ hs he => wp_exit ⟨μ, env, H, hs, he, h⟩
theorem GWP.seq {x y : Code} (h : GWP P N C x (gthen (fun env H => GWP P N C y Q env H) Q) env H) : GWP P N C (.seq x y) Q env H := fun w0 Fr μ0 μ a w hs he => by
  refine wp_seq (wp_mono (h w0 Fr μ0 μ a w hs he) ?_)
  rintro e a' w' ⟨μ', env', H', q1, q2, q3⟩
  cases e with
  | normal => exact q3 w0 Fr μ0 μ' a' w' q1 q2
  | _ => exact ⟨μ', env', H', q1, q2, q3⟩
/-- The same, what comes behind behind a letter. -/
theorem GWP.seq_k {x y : Code} (h : ∀ K : Env → Hp → Prop, (∀ env H, GWP P N C y Q env H → K env H) → GWP P N C x (gthen K Q) env H) : GWP P N C (.seq x y) Q env H := .seq (h _ fun _ _ h => h)
theorem GWP.cond {c : Operand} {x y : Code} {b : Bool} (hc : geval env c = some (.bool b)) (h1 : b = true → GWP P N C x Q env H) (h2 : b = false → GWP P N C y Q env H) : GWP P N C (.cond c x y) Q env H := fun w0 Fr μ0 μ a w hs he => by
  have hv := (he.eval hc).plain_eq rfl
  exact wp_cond_split hv (fun ht => h1 ht w0 Fr μ0 μ a w hs he) (fun hf => h2 hf w0 Fr μ0 μ a w hs he)
theorem GWP.cond_t {c : Operand} {x y : Code} {b : Bool} (hc : geval env c = some (.bool b)) (hb : b = true) (h1 : GWP P N C x Q env H) : GWP P N C (.cond c x y) Q env H := .cond hc (fun _ => h1) (fun h => by rw [hb] at h; cases h)
theorem GWP.cond_f {c : Operand} {x y : Code} {b : Bool} (hc : geval env c = some (.bool b)) (hb : b = false) (h1 : GWP P N C y Q env H) : GWP P N C (.cond c x y) Q env H := .cond hc (fun h => by rw [hb] at h; cases h) (fun _ => h1)
theorem GWP.block {id : Nat} {c : Code} (h : GWP P N C c (gblock id Q) env H) : GWP P N C (.block id c) Q env H := fun w0 Fr μ0 μ a w hs he => by
  refine wp_block (wp_mono (h w0 Fr μ0 μ a w hs he) ?_)
  rintro e a' w' ⟨μ', env', H', q1, q2, q3⟩
  cases e with
  | exit id' =>
    simp only [Exit.inBlock, gblock] at q3 ⊢
    split
    · rename_i h
      have hb : Nat.beq id' id = true := by rw [h]; exact Nat.beq_refl id
      rw [hb] at q3
      exact ⟨μ', env', H', q1, q2, q3⟩
    · rename_i h
      have hb : Nat.beq id' id = false := by
        cases hb : Nat.beq id' id with
        | true => exact absurd (Nat.eq_of_beq_eq_true hb) h
        | false => rfl
      rw [hb] at q3
      exact ⟨μ', env', H', q1, q2, q3⟩
  | _ => exact ⟨μ', env', H', q1, q2, q3⟩
theorem GWP.loop {α : Type} (E : α → Env) (I : α → Hp → Prop) (m : α → Nat) (x0 : α) {body : Code} (h0 : ∀ s v, (E x0).get s = some v → env.get s = some v) (hI : I x0 H)
    (round : ∀ x H, I x H → GWP P N C body (gthen (fun env' H' => ∃ x', (∀ s v, (E x').get s = some v → env'.get s = some v) ∧ I x' H' ∧ m x' < m x) Q) (E x) H) : GWP P N C (.loop body) Q env H := fun w0 Fr μ0 μ a w hs he => by
  refine wp_loop_ghost (fun n a w => ∃ x μ H, m x = n ∧ I x H ∧ Sim C w0 Fr μ0 μ H w ∧ ER μ N (E x) a) (m x0) ⟨x0, μ, H, rfl, hI, hs, he.sub h0⟩ ?_
  rintro n a w ⟨x, μ, H, rfl, hI, hs, he⟩
  refine wp_mono (round x H hI w0 Fr μ0 μ a w hs he) ?_
  rintro e a' w' ⟨μ', env', H', q1, q2, q3⟩
  cases e with
  | normal =>
    obtain ⟨x', q4, q5, q6⟩ := q3
    exact ⟨m x', q6, x', μ', H', rfl, q5, q1, q2.sub q4⟩
  | _ => exact ⟨μ', env', H', q1, q2, q3⟩
/-- A loop, laid out round by round. -/
def GRounds (P : Program) (N : Nat) (C : Ctx) (c : Code) (Q : Exit → Env → Hp → Prop) : Nat → Env → Hp → Prop
  | 0, _, _ => False
  | n + 1, env, H => GWP P N C c (gthen (GRounds P N C c Q n) Q) env H
theorem GRounds.step {body : Code} {n : Nat} (h : GWP P N C body (gthen (GRounds P N C body Q n) Q) env H) : GRounds P N C body Q (n + 1) env H := h
theorem GRounds.real {body : Code} {w0 : World} {Fr : List Nat} {μ0 : Ren} : ∀ (n : Nat) (env : Env) (H : Hp) (μ : Ren) (a : Act) (w : World), GRounds P N C body Q n env H → Sim C w0 Fr μ0 μ H w → ER μ N env a → Code.rounds P body (GPost N C w0 Fr μ0 Q) n a w
  | 0, _, _, _, _, _, h, _, _ => h
  | n + 1, env, H, μ, a, w, h, hs, he => by
    refine wp_mono (h w0 Fr μ0 μ a w hs he) ?_
    rintro e a' w' ⟨μ', env', H', q1, q2, q3⟩
    cases e with
    | normal => exact GRounds.real n env' H' μ' a' w' q3 q1 q2
    | _ => exact ⟨μ', env', H', q1, q2, q3⟩
theorem GWP.loopN {body : Code} (n : Nat) (h : GRounds P N C body Q n env H) : GWP P N C (.loop body) Q env H := fun _ _ _ μ a w hs he => wp_loop_rounds n (GRounds.real n env H μ a w h hs he)
theorem GWP.region {id : Nat} {l : List Oper} (h : GOps P N C l.toArray Q l env H) : GWP P N C (.region id l.toArray false) Q env H := fun w0 Fr μ0 μ a w hs he => wp_region_lit (h w0 Fr μ0 μ a w hs he)

/-- What an operation does: a relation between heap ahead, value and heap behind. -/
def GOp (P : Program) (C : Ctx) (o : Oper) (env : Env) (H : Hp) (R : Value → Hp → Prop) : Prop :=
  ∀ N w0 Fr μ0 μ a w (K : Act → World → Prop) (Q : Exit → Act → World → Prop), Sim C w0 Fr μ0 μ H w → ER μ N env a →
    (∀ v rv H' w' μ', R v H' → Sim C w0 Fr μ0 μ' H' w' → Ext' μ μ' → VR μ' v rv → K (a.put o.dst rv) w') → o.wp P a w K Q
/-- An operation that reads these blocks at most: the same value in all worlds that are alike there. -/
def GRd (P : Program) (o : Oper) (env : Env) (H : Hp) (v : Value) (T : List Nat) : Prop :=
  ∀ μ N a w, SimH μ H w → ER μ N env a → ∃ rv, VR μ v rv ∧ ∀ w', (∀ i ∈ T, ∀ L, μ i = some L → w'.heap[L.g]? = w.heap[L.g]?) → (execOp a.eval o).run P w' = .ok (.value rv) w'
theorem GRd.op {o : Oper} {v : Value} {T : List Nat} (h : GRd P o env H v T) : GOp P C o env H (fun u H' => u = v ∧ H' = H) := fun N w0 Fr μ0 μ a w K Q hs he hk => by
  obtain ⟨rv, h1, h2⟩ := h μ N a w hs.h he
  unfold Oper.wp
  rw [h2 w fun _ _ _ _ => rfl]
  exact hk v rv H w μ ⟨rfl, rfl⟩ hs (Ext'.refl μ) h1
def envput (env : Env) : Option Nat → Value → Env
  | some d, v => (d, v) :: env
  | none, _ => env
def dstOk (N : Nat) : Option Nat → Bool
  | some d => Nat.blt d N
  | none => true
def gwant (ops : Array Oper) (env : Env) (o : Oper) : Option Bool :=
  match o.guard with
  | none => some true
  | some (j, want) => match (ops[j]?).bind (·.dst) with
    | some s => match env.get s with
      | some (.bool b) => some (b == want)
      | some (.tuple _) => some false
      | _ => none
    | none => none
theorem ER.envput {μ : Ren} {a : Act} (h : ER μ N env a) {dst : Option Nat} (hd : dstOk N dst = true) {v v' : Value} (hv : VR μ v v') : ER μ N (envput env dst v) (a.put dst v') := by
  cases dst with
  | none => exact h
  | some d => exact h.put (by rw [← Nat.blt_eq]; exact hd) hv
theorem gwant_real {μ : Ren} {a : Act} {ops : Array Oper} {o : Oper} {b : Bool} (h : ER μ N env a) (hw : gwant ops env o = some b) : Region.wanted o (yielded ops a.tmps) = b := by
  unfold gwant at hw
  unfold Region.wanted
  split at hw
  · rename_i hg
    injection hw with hw
    rw [hg, ← hw]
  · rename_i j want hg
    rw [hg]
    split at hw
    · rename_i s hs
      split at hw
      · rename_i c hc
        injection hw with hw
        obtain ⟨v', h1, h2⟩ := h.val s _ hc
        have h3 := h2.plain_eq rfl
        subst h3
        simp only [yielded, hs, Option.bind_some, h1]
        rw [← hw]
        cases c <;> cases want <;> rfl
      · rename_i l hc
        injection hw with hw
        obtain ⟨v', h1, h2⟩ := h.val s _ hc
        cases h2
        simp only [yielded, hs, Option.bind_some, h1]
        rw [← hw]
        rfl
      · cases hw
    · cases hw
variable {ops : Array Oper} {o : Oper} {rest : List Oper}
theorem GOps.nil (h : Q .normal env H) : GOps P N C ops Q [] env H := fun _ _ _ μ _ _ hs he => wpList_nil ⟨μ, env, H, hs, he, h⟩
theorem GOps.step {b : Bool} {R : Value → Hp → Prop} (hw : gwant ops env o = some b) (hb : b = true) (hd : dstOk N o.dst = true) (h : GOp P C o env H R) (k : ∀ v H', R v H' → GOps P N C ops Q rest (envput env o.dst v) H') : GOps P N C ops Q (o :: rest) env H := fun w0 Fr μ0 μ a w hs he => by
  refine wpList_step fun K hK => ?_
  rw [gwant_real he hw, if_pos hb]
  exact h N w0 Fr μ0 μ a w K _ hs he fun v rv H' w' μ' hR hs' hx hv => hK _ _ (k v H' hR w0 Fr μ0 μ' _ w' hs' ((he.mono hx).envput hd hv))
theorem GOps.rd {b : Bool} {v : Value} {T : List Nat} (hw : gwant ops env o = some b) (hb : b = true) (hd : dstOk N o.dst = true) (h : GRd P o env H v T) (k : GOps P N C ops Q rest (Go.Proofs.Ytcbngjpihcemiaa.envput env o.dst v) H) : GOps P N C ops Q (o :: rest) env H :=
  GOps.step hw hb hd h.op fun v' H' ⟨e1, e2⟩ => by subst e1; subst e2; exact k
theorem GOps.pass {b : Bool} (hw : gwant ops env o = some b) (hb : b = false) (hd : dstOk N o.dst = true) (k : GOps P N C ops Q rest (Go.Proofs.Ytcbngjpihcemiaa.envput env o.dst undef) H) : GOps P N C ops Q (o :: rest) env H := fun w0 Fr μ0 μ a w hs he => by
  refine wpList_step fun K hK => ?_
  rw [gwant_real he hw, hb]
  exact hK _ _ (k w0 Fr μ0 μ _ w hs (he.envput hd (.tuple .nil)))
/-- The same, where the value goes into a slot. -/
theorem GOps.r {b : Bool} {v : Value} {d : Nat} {T : List Nat} (hw : gwant ops env o = some b) (hb : b = true) (hd : o.dst = some d) (hN : Nat.blt d N = true) (h : GRd P o env H v T) (k : GOps P N C ops Q rest ((d, v) :: env) H) : GOps P N C ops Q (o :: rest) env H :=
  GOps.rd hw hb (by rw [hd]; exact hN) h (by rw [hd]; exact k)
theorem GOps.w {b : Bool} {d : Nat} {R : Value → Hp → Prop} (hw : gwant ops env o = some b) (hb : b = true) (hd : o.dst = some d) (hN : Nat.blt d N = true) (h : GOp P C o env H R) (k : ∀ v H', R v H' → GOps P N C ops Q rest ((d, v) :: env) H') : GOps P N C ops Q (o :: rest) env H :=
  GOps.step hw hb (by rw [hd]; exact hN) h fun v H' hR => by rw [hd]; exact k v H' hR
theorem GOps.w1 {b : Bool} {d : Nat} {v0 : Value} {H0 : Hp} (hw : gwant ops env o = some b) (hb : b = true) (hd : o.dst = some d) (hN : Nat.blt d N = true) (h : GOp P C o env H (fun v H' => v = v0 ∧ H' = H0)) (k : GOps P N C ops Q rest ((d, v0) :: env) H0) : GOps P N C ops Q (o :: rest) env H :=
  GOps.w hw hb hd hN h fun v H' ⟨e1, e2⟩ => by subst e1; subst e2; exact k
theorem GOps.s {b : Bool} {v0 : Value} {H0 : Hp} (hw : gwant ops env o = some b) (hb : b = true) (hd : o.dst = none) (h : GOp P C o env H (fun v H' => v = v0 ∧ H' = H0)) (k : GOps P N C ops Q rest env H0) : GOps P N C ops Q (o :: rest) env H :=
  GOps.step hw hb (by rw [hd]; rfl) h fun v H' ⟨_, e2⟩ => by rw [hd]; subst e2; exact k
theorem GOps.no {b : Bool} {d : Nat} (hw : gwant ops env o = some b) (hb : b = false) (hd : o.dst = some d) (hN : Nat.blt d N = true) (k : GOps P N C ops Q rest ((d, undef) :: env) H) : GOps P N C ops Q (o :: rest) env H :=
  GOps.pass hw hb (by rw [hd]; exact hN) (by rw [hd]; exact k)
/-- A guard that lets the operation through is gone. -/
theorem GOps.take {b : Bool} {q : Nat × Bool} (_hg : o.guard = some q) (hw : gwant ops env o = some b) (hb : b = true) (k : GOps P N C ops Q ({ o with guard := none } :: rest) env H) : GOps P N C ops Q (o :: rest) env H := fun w0 Fr μ0 μ a w hs he => by
  have h := k w0 Fr μ0 μ a w hs he
  have hr := gwant_real he hw
  subst hb
  unfold wpList at h ⊢
  rw [if_pos hr]
  have h2 : Region.wanted { o with guard := none } (yielded ops a.tmps) = true := rfl
  rw [if_pos h2] at h
  exact h
end
end Go.Proofs.Ytcbngjpihcemiaa

/- The ghost walk: a program's types, in a table. Over any program. -/
namespace Go.Proofs.Ytcbngjpihcemiaa
open Go.RowKit

/-- What a type is. -/
inductive GD where
  | int (k : IntKind)
  | bool
  | str
  | ptr (e : TypeId)
  | slice (e : TypeId) (z bytes : Nat) (zero : List Value)
  | arr (n : Nat) (e : TypeId) (z : Nat)
  | struct (fs : List (Nat × TypeId × Nat))
  | iface
  | func
  | other
/-- A plain cell. -/
inductive CK where
  | int (k : IntKind)
  | bool
  | str
def ckEq : CK → CK → Bool
  | .int k, .int l => k == l
  | .bool, .bool => true
  | .str, .str => true
  | _, _ => false
def cksEq : List CK → List CK → Bool
  | [], [] => true
  | a :: l, b :: m => ckEq a b && cksEq l m
  | _, _ => false
theorem cksEq_eq : ∀ {l m : List CK}, cksEq l m = true → l = m
  | [], [], _ => rfl
  | a :: l, b :: m, h => by
    simp only [cksEq, Bool.and_eq_true] at h
    obtain ⟨h1, h2⟩ := h
    rw [cksEq_eq h2]
    cases a <;> cases b <;> simp_all [ckEq]
  | [], _ :: _, h => by cases h
  | _ :: _, [], h => by cases h
/-- A type of plain cells alone: which. -/
def flatF (P : Program) (g : TypeId → Option (List CK)) : List Field → Nat → Option (List CK)
  | [], _ => some []
  | f :: fs, off => bif f.offset == off && f.name != "_" then (match g f.type, P.info? f.type, flatF P g fs (off + (match P.info? f.type with | some i => i.size | none => 0)) with
    | some ks, some i, some l => bif i.size == ks.length then some (ks ++ l) else none
    | _, _, _ => none) else none
def flatT (P : Program) : Nat → TypeId → Option (List CK)
  | 0, _ => none
  | n + 1, t => match P.underlying t with
    | some (.int k) => some [.int k]
    | some .bool => some [.bool]
    | some .string => some [.str]
    | some (.array len e) => match flatT P n e, P.info? e with
      | some ks, some i => bif i.size == ks.length then some (List.replicate len ks).flatten else none
      | _, _ => none
    | some (.struct fs) => bif P.stoodInHeld t then none else flatF P (flatT P n) fs.toList 0
    | _ => none
def flatB (P : Program) (t : TypeId) (ks : List CK) : Bool := match flatT P 20 t with
  | some l => cksEq l ks && !P.eqGuardType P.depth t
  | none => false
/-- A type: cells, bytes, the zero value's cells, and what it is. -/
structure TyI where
  size : Nat
  bytes : Nat
  zero : List Value
  d : GD
  ms : List (String × FuncId) := []
  ks : List CK := []
def TyI.agg (i : TyI) : Bool := match i.d with
  | .arr .. => true
  | .struct .. => true
  | _ => false
def vEqB : Value → Value → Bool
  | .bool a, .bool b => a == b
  | .int k a, .int l b => k == l && a == b
  | .string a, .string b => a.size == 0 && b.size == 0
  | .pointer none, .pointer none => true
  | .slice none 0 0, .slice none 0 0 => true
  | .nilFunc, .nilFunc => true
  | .nilIface, .nilIface => true
  | .map none, .map none => true
  | _, _ => false
theorem vEqB_eq {a b : Value} (h : vEqB a b = true) : a = b ∧ plainB a = true := by
  unfold vEqB at h
  split at h
  · simp only [beq_iff_eq] at h; subst h; exact ⟨rfl, rfl⟩
  · simp only [Bool.and_eq_true, beq_iff_eq] at h; obtain ⟨rfl, rfl⟩ := h; exact ⟨rfl, rfl⟩
  · rename_i a b
    simp only [Bool.and_eq_true, beq_iff_eq] at h
    obtain ⟨h1, h2⟩ := h
    refine ⟨?_, rfl⟩
    obtain ⟨⟨x⟩⟩ := a
    obtain ⟨⟨y⟩⟩ := b
    simp [ByteArray.size] at h1 h2
    subst h1 h2
    rfl
  all_goals first | exact ⟨rfl, rfl⟩ | cases h
def lEqB : List Value → List Value → Bool
  | [], [] => true
  | a :: l, b :: m => vEqB a b && lEqB l m
  | _, _ => false
theorem lEqB_eq : ∀ {l m : List Value}, lEqB l m = true → l = m ∧ ∀ v ∈ l, plainB v = true
  | [], [], _ => ⟨rfl, fun v h => by cases h⟩
  | a :: l, b :: m, h => by
    simp only [lEqB, Bool.and_eq_true] at h
    obtain ⟨h1, h2⟩ := h
    obtain ⟨rfl, h3⟩ := vEqB_eq h1
    obtain ⟨rfl, h4⟩ := lEqB_eq h2
    refine ⟨rfl, fun v hv => ?_⟩
    rcases List.mem_cons.1 hv with rfl | hv
    · exact h3
    · exact h4 v hv
  | [], _ :: _, h => by cases h
  | _ :: _, [], h => by cases h
def zeroB (x : TypeInfo) (zr : List Value) : Bool := match x.zero with
  | some z => lEqB z.cells.toList zr
  | none => false
/-- Is it so? -/
def methB (P : Program) (t : TypeId) (name : String) (f : FuncId) : Bool := match P.info? t with
  | some x => match x.methods.find? (·.name == name) with
    | some m => m.path.isEmpty && (match m.func, P.underlying t with
      | some (g, true), some (.pointer _) => g == f
      | some (_, false), some (.pointer _) => false
      | some (g, false), some _ => g == f
      | _, _ => false)
    | none => false
  | none => false
/-- A method of a value, told by its row. -/
theorem method_run {P : Program} {t : TypeId} {name : String} {f : FuncId} (h : methB P t name f = true) (n : Nat) (v : Value) (w : World) : (Go.method (n + 1) t v name).run P w = .ok (f, v) w := by
  unfold methB at h
  split at h
  · rename_i x hx
    split at h
    · rename_i m hm
      simp only [Bool.and_eq_true] at h
      obtain ⟨hp, h⟩ := h
      have hp : m.path = #[] := by simpa using hp
      unfold Go.method
      split at h
      · rename_i g e hf hu
        obtain rfl : g = f := by simpa using h
        simp [typeInfo, hx, hm, hp, follow, hf, receiverAt, run_underlying hu, Place.get]
      · cases h
      · rename_i g d hnp hf hu
        obtain rfl : g = f := by simpa using h
        cases d <;> first | exact absurd rfl (hnp _) | simp [typeInfo, hx, hm, hp, follow, hf, receiverAt, run_underlying hu, Place.get]
      · cases h
    · cases h
  · cases h
def oneZB (P : Program) (t : TypeId) (i : TyI) : Bool := match i.zero with
  | [_] => i.agg || (match P.info? t with
    | some x => match x.zero with
      | some (.agg _) => false
      | _ => true
    | none => false)
  | _ => true
def tyOkB (P : Program) (t : TypeId) (i : TyI) : Bool := ((i.ms.all fun q => methB P t q.1 q.2) && oneZB P t i && (i.ks.isEmpty || flatB P t i.ks)) &&
  (match P.info? t with
    | some x => x.size == i.size && x.bytes == i.bytes && (i.zero.isEmpty || zeroB x i.zero)
    | none => false) &&
  (match P.underlying t, i.d with
    | some (.int k), .int k' => k == k'
    | some .bool, .bool => true
    | some .string, .str => true
    | some (.pointer e), .ptr e' => e == e'
    | some (.slice e), .slice e' z b zr => e == e' && (match P.info? e with
      | some x => x.size == z && x.bytes == b && z == zr.length && zeroB x zr
      | none => false)
    | some (.array n e), .arr n' e' z => n == n' && e == e' && (match P.info? e with
      | some x => x.size == z
      | none => false)
    | some (.struct fs), .struct gs => fs.size == gs.length && (fs.toList.zip gs).all fun (f, g) => f.offset == g.1 && f.type == g.2.1 && g.2.2 != 0 && (match P.info? f.type with
      | some x => x.size == g.2.2
      | none => false)
    | some (.interface _), .iface => true
    | some (.func ..), .func => true
    | some (.map ..), .other => true
    | some (.tuple ..), .other => true
    | _, _ => false)
abbrev Tab := Nat → Option TyI
def Tab.ok (P : Program) (T : Tab) : Prop := ∀ t i, T t = some i → tyOkB P t i = true
def tabOf (l : List (Nat × TyI)) : Tab := fun t => match l with
  | [] => none
  | (s, i) :: l => cond (Nat.beq s t) (some i) (tabOf l t)
theorem tab_ok {P : Program} : ∀ {l : List (Nat × TyI)}, (l.all fun p => tyOkB P p.1 p.2) = true → (tabOf l).ok P
  | [], _, t, i, h => by simp [tabOf] at h
  | (s, j) :: l, hl, t, i, h => by
    simp only [List.all_cons, Bool.and_eq_true] at hl
    unfold tabOf at h
    cases hb : Nat.beq s t with
    | true =>
      rw [hb] at h
      injection h with h
      subst h
      rw [← Nat.eq_of_beq_eq_true hb]
      exact hl.1
    | false =>
      rw [hb] at h
      exact tab_ok hl.2 t i h

section
variable {P : Program} {T : Tab} {t : TypeId} {i : TyI}
theorem Tab.size (hT : T.ok P) (h : T t = some i) : ∃ x, P.info? t = some x ∧ x.size = i.size ∧ x.bytes = i.bytes ∧ (i.zero ≠ [] → ∃ z, x.zero = some z ∧ z.cells.toList = i.zero ∧ ∀ v ∈ i.zero, plainB v = true) := by
  have h1 := hT t i h
  simp only [tyOkB, Bool.and_eq_true] at h1
  replace h1 := And.intro h1.1.2 h1.2
  obtain ⟨h1, _⟩ := h1
  split at h1
  · rename_i x hx
    simp only [Bool.and_eq_true, beq_iff_eq, Bool.or_eq_true] at h1
    obtain ⟨⟨h2, h3⟩, h4⟩ := h1
    refine ⟨x, hx, h2, h3, fun hne => ?_⟩
    rcases h4 with h4 | h4
    · exact absurd (List.isEmpty_iff.1 h4) hne
    · unfold zeroB at h4
      split at h4
      · rename_i z hz
        obtain ⟨h5, h6⟩ := lEqB_eq h4
        exact ⟨z, hz, h5, fun v hv => h6 v (by rw [h5]; exact hv)⟩
      · cases h4
  · cases h1
theorem Tab.snd (hT : T.ok P) (h : T t = some i) : (match P.underlying t, i.d with
    | some (.int k), .int k' => k == k'
    | some .bool, .bool => true
    | some .string, .str => true
    | some (.pointer e), .ptr e' => e == e'
    | some (.slice e), .slice e' z b zr => e == e' && (match P.info? e with
      | some x => x.size == z && x.bytes == b && z == zr.length && zeroB x zr
      | none => false)
    | some (.array n e), .arr n' e' z => n == n' && e == e' && (match P.info? e with
      | some x => x.size == z
      | none => false)
    | some (.struct fs), .struct gs => fs.size == gs.length && (fs.toList.zip gs).all fun (f, g) => f.offset == g.1 && f.type == g.2.1 && g.2.2 != 0 && (match P.info? f.type with
      | some x => x.size == g.2.2
      | none => false)
    | some (.interface _), .iface => true
    | some (.func ..), .func => true
    | some (.map ..), .other => true
    | some (.tuple ..), .other => true
    | _, _ => false) = true := by
  have h1 := hT t i h
  simp only [tyOkB, Bool.and_eq_true] at h1
  replace h1 := And.intro h1.1.2 h1.2
  exact h1.2
def msGet : List (String × FuncId) → String → Option FuncId
  | [], _ => none
  | (s, f) :: l, n => bif s == n then some f else msGet l n
theorem Tab.meth (hT : T.ok P) (h : T t = some i) {name : String} {f : FuncId} (hm : msGet i.ms name = some f) : methB P t name f = true := by
  have h1 := hT t i h
  simp only [tyOkB, Bool.and_eq_true] at h1
  have h2 := h1.1.1.1.1
  revert hm h2
  generalize i.ms = l
  induction l with
  | nil => intro hm; cases hm
  | cons p l ih =>
    obtain ⟨s, g⟩ := p
    intro hm h2
    simp only [List.all_cons, Bool.and_eq_true] at h2
    unfold msGet at hm
    cases hb : s == name with
    | true =>
      rw [hb] at hm
      obtain rfl : g = f := by simpa using hm
      obtain rfl : s = name := by simpa using hb
      exact h2.1
    | false =>
      rw [hb] at hm
      exact ih hm h2.2
theorem Tab.one (hT : T.ok P) (h : T t = some i) (ha : i.agg = false) {a : Value} (hz : i.zero = [a]) : ∃ x, P.info? t = some x ∧ x.zero = some a ∧ plainB a = true := by
  obtain ⟨x, q1, q2, q3, q4⟩ := Tab.size hT h
  obtain ⟨z, q5, q6, q7⟩ := q4 (by rw [hz]; simp)
  rw [hz] at q6 q7
  have h1 := hT t i h
  simp only [tyOkB, Bool.and_eq_true] at h1
  have h2 := h1.1.1.1.2
  unfold oneZB at h2
  rw [hz, ha, q1] at h2
  simp only [q5, Bool.false_or] at h2
  refine ⟨x, q1, ?_, q7 a (by simp)⟩
  rw [q5]
  clear h1 q4 q5 q7
  cases z <;> first | (cases h2; done) | exact congrArg some (List.head_eq_of_cons_eq (show _ :: [] = a :: [] from q6))
theorem Tab.flat (hT : T.ok P) (h : T t = some i) (hk : i.ks.isEmpty = false) : flatB P t i.ks = true := by
  have h1 := hT t i h
  simp only [tyOkB, Bool.and_eq_true, Bool.or_eq_true] at h1
  rcases h1.1.1.2 with h2 | h2
  · rw [hk] at h2; cases h2
  · exact h2
theorem Tab.int (hT : T.ok P) (h : T t = some i) {k : IntKind} (hd : i.d = .int k) : P.underlying t = some (.int k) := by
  have h1 := Tab.snd hT h
  rw [hd] at h1
  split at h1 <;> simp_all
theorem Tab.str (hT : T.ok P) (h : T t = some i) (hd : i.d = .str) : P.underlying t = some .string := by
  have h1 := Tab.snd hT h
  rw [hd] at h1
  split at h1 <;> simp_all
theorem Tab.bool (hT : T.ok P) (h : T t = some i) (hd : i.d = .bool) : P.underlying t = some .bool := by
  have h1 := Tab.snd hT h
  rw [hd] at h1
  split at h1 <;> simp_all
theorem Tab.ptr (hT : T.ok P) (h : T t = some i) {e : TypeId} (hd : i.d = .ptr e) : P.underlying t = some (.pointer e) := by
  have h1 := Tab.snd hT h
  rw [hd] at h1
  split at h1 <;> simp_all
theorem Tab.slice (hT : T.ok P) (h : T t = some i) {e z b : Nat} {zr : List Value} (hd : i.d = .slice e z b zr) : P.underlying t = some (.slice e) ∧ ∃ x, P.info? e = some x ∧ x.size = z ∧ x.bytes = b ∧ z = zr.length ∧ ∃ v, x.zero = some v ∧ v.cells.toList = zr ∧ ∀ u ∈ zr, plainB u = true := by
  have h1 := Tab.snd hT h
  rw [hd] at h1
  split at h1
  all_goals try (rename_i h2; cases h2; done)
  all_goals try cases h1
  rename_i e1 e2 z2 b2 zr2 hu hd2
  injection hd2 with q1 q2 q3 q4
  subst q1 q2 q3 q4
  simp only [Bool.and_eq_true, beq_iff_eq] at h1
  obtain ⟨rfl, h1⟩ := h1
  refine ⟨hu, ?_⟩
  split at h1
  · rename_i x hx
    simp only [Bool.and_eq_true, beq_iff_eq] at h1
    obtain ⟨⟨⟨h2, h3⟩, h4⟩, h5⟩ := h1
    refine ⟨x, hx, h2, h3, h4, ?_⟩
    unfold zeroB at h5
    split at h5
    · rename_i v hv
      obtain ⟨h6, h7⟩ := lEqB_eq h5
      exact ⟨v, hv, h6, fun u hu => h7 u (by rw [h6]; exact hu)⟩
    · cases h5
  · cases h1
theorem Tab.arr (hT : T.ok P) (h : T t = some i) {n e z : Nat} (hd : i.d = .arr n e z) : P.underlying t = some (.array n e) ∧ ∃ x, P.info? e = some x ∧ x.size = z := by
  have h1 := Tab.snd hT h
  rw [hd] at h1
  split at h1
  all_goals try (rename_i h2; cases h2; done)
  all_goals try cases h1
  rename_i n1 e1 n2 e2 z2 hu hd2
  injection hd2 with q1 q2 q3
  subst q1 q2 q3
  simp only [Bool.and_eq_true, beq_iff_eq] at h1
  obtain ⟨⟨rfl, rfl⟩, h1⟩ := h1
  refine ⟨hu, ?_⟩
  split at h1
  · rename_i x hx
    exact ⟨x, hx, by simpa using h1⟩
  · cases h1
theorem Tab.struct (hT : T.ok P) (h : T t = some i) {gs : List (Nat × TypeId × Nat)} (hd : i.d = .struct gs) : ∃ fs, P.underlying t = some (.struct fs) ∧ fs.size = gs.length ∧
    ∀ (j off ty sz : Nat), gs[j]? = some (off, ty, sz) → ∃ f x, fs[j]? = some f ∧ f.offset = off ∧ f.type = ty ∧ sz ≠ 0 ∧ P.info? ty = some x ∧ x.size = sz := by
  have h1 := Tab.snd hT h
  rw [hd] at h1
  split at h1
  all_goals try (rename_i h2; cases h2; done)
  all_goals try cases h1
  rename_i fs gs2 hu hd2
  injection hd2 with q1
  subst q1
  simp only [Bool.and_eq_true, beq_iff_eq, List.all_eq_true] at h1
  obtain ⟨h2, h3⟩ := h1
  refine ⟨fs, hu, h2, fun j off ty sz hj => ?_⟩
  have hjl : j < gs.length := (List.getElem?_eq_some_iff.1 hj).1
  have hf : fs[j]? = some (fs[j]'(by omega)) := Array.getElem?_eq_getElem (by omega)
  have hz : (fs.toList.zip gs)[j]? = some (fs[j]'(by omega), (off, ty, sz)) := by
    rw [List.getElem?_zip_eq_some]
    exact ⟨by simp, hj⟩
  have h4 := h3 _ (List.mem_of_getElem? hz)
  simp only [bne_iff_ne] at h4
  obtain ⟨⟨⟨h5, h6⟩, h7⟩, h8⟩ := h4
  split at h8
  · rename_i x hx
    rw [h6] at hx
    exact ⟨_, x, hf, h5, h6, h7, hx, by simpa using h8⟩
  · cases h8
theorem Tab.notAgg (hT : T.ok P) (h : T t = some i) (ha : i.agg = false) : ∃ d, P.underlying t = some d ∧ (match d with | .struct _ => false | .array _ _ => false | _ => true) = true := by
  have h1 := Tab.snd hT h
  obtain ⟨sz, by_, zr, d⟩ := i
  cases d <;> simp only [TyI.agg] at ha h1 <;> first | (split at h1 <;> first | (rename_i hu _; exact ⟨_, hu, rfl⟩) | (rename_i hu; exact ⟨_, hu, rfl⟩) | cases h1 | (simp_all; done)) | cases ha
end
end Go.Proofs.Ytcbngjpihcemiaa

/- The ghost walk: operations that read, or only compute. Over any program. -/
namespace Go.Proofs.Ytcbngjpihcemiaa
open Go.RowKit

section eqs
variable {P : Program} {t : TypeId} (w : World)
theorem eqIn_bool (d : Nat) (a b : Bool) (h : P.underlying t = some .bool) : (Op.equalIn (d + 1) t (.bool a) (.bool b)).run P w = .ok (a == b) w := by
  unfold Op.equalIn
  simp [run_underlying h]
theorem run_eq_bool (h : P.underlying t = some .bool) (w : World) (a b : Bool) : (Op.equal t (.bool a) (.bool b)).run P w = .ok (a == b) w := eqIn_bool w 9999 a b h
theorem eqIn_ptr (d : Nat) (e : TypeId) (p : Option Addr) (h : P.underlying t = some (.pointer e)) : (Op.equalIn (d + 1) t (.pointer p) (.pointer none)).run P w = .ok p.isNone w := by
  unfold Op.equalIn
  cases p <;> simp [run_underlying h]
theorem run_eq_ptr {e : TypeId} (h : P.underlying t = some (.pointer e)) (w : World) (p : Option Addr) : (Op.equal t (.pointer p) (.pointer none)).run P w = .ok p.isNone w := eqIn_ptr w 9999 e p h
theorem eqIn_slice (d : Nat) (e : TypeId) (p : Option Addr) (n c n' c' : Nat) (h : P.underlying t = some (.slice e)) : (Op.equalIn (d + 1) t (.slice p n c) (.slice none n' c')).run P w = .ok p.isNone w := by
  unfold Op.equalIn
  cases p <;> simp [run_underlying h]
theorem run_eq_slice {e : TypeId} (h : P.underlying t = some (.slice e)) (w : World) (p : Option Addr) (n c n' c' : Nat) : (Op.equal t (.slice p n c) (.slice none n' c')).run P w = .ok p.isNone w := eqIn_slice w 9999 e p n c n' c' h
end eqs
section
variable {P : Program} {T : Tab} {o : Oper} {env : Env} {H : Hp} {x y : Operand} {t : TypeId} {i : TyI}
theorem GRd.pure {v : Value} (h : ∀ μ N a, ER μ N env a → ∃ rv, VR μ v rv ∧ ∀ w, (execOp a.eval o).run P w = .ok (.value rv) w) : GRd P o env H v [] := fun μ N a _ _ he =>
  let ⟨rv, h1, h2⟩ := h μ N a he
  ⟨rv, h1, fun w' _ => h2 w'⟩
theorem grd_move {v : Value} (ho : o.op = .move x) (hx : geval env x = some v) : GRd P o env H v [] :=
  .pure fun μ N a he => ⟨a.eval x, he.eval hx, fun w => by simp [execOp, ho]⟩
theorem grd_assign {v : Value} (ho : o.op = .assign x) (hx : geval env x = some v) : GRd P o env H v [] :=
  .pure fun μ N a he => ⟨a.eval x, he.eval hx, fun w => by simp [execOp, ho]⟩
theorem grd_pick {c : Operand} {u v : Value} {b : Bool} (ho : o.op = .pick c x y) (hc : geval env c = some (.bool b)) (hx : geval env x = some u) (hy : geval env y = some v) : GRd P o env H (if b then u else v) [] :=
  .pure fun μ N a he => by
    have h1 := (he.eval hc).plain_eq rfl
    cases b with
    | true => exact ⟨a.eval x, by simpa using he.eval hx, fun w => by simp [execOp, ho, h1, asBool]⟩
    | false => exact ⟨a.eval y, by simpa using he.eval hy, fun w => by simp [execOp, ho, h1, asBool]⟩
/-- The same, where only the arm that counts is known. -/
theorem grd_pick_t {c : Operand} {u : Value} {b : Bool} (ho : o.op = .pick c x y) (hc : geval env c = some (.bool b)) (hb : b = true) (hx : geval env x = some u) : GRd P o env H u [] :=
  .pure fun μ N a he => ⟨a.eval x, he.eval hx, fun w => by simp [execOp, ho, (he.eval hc).plain_eq rfl, hb, asBool]⟩
theorem grd_pick_f {c : Operand} {v : Value} {b : Bool} (ho : o.op = .pick c x y) (hc : geval env c = some (.bool b)) (hb : b = false) (hy : geval env y = some v) : GRd P o env H v [] :=
  .pure fun μ N a he => ⟨a.eval y, he.eval hy, fun w => by simp [execOp, ho, (he.eval hc).plain_eq rfl, hb, asBool]⟩
theorem grd_nil {p : Addr} (ho : o.op = .nilCheck x) (hx : geval env x = some (.pointer (some p))) : GRd P o env H (.pointer (some p)) [] :=
  .pure fun μ N a he => by
    have h := he.eval hx
    generalize hv : a.eval x = v at h
    cases h with
    | ptr h' => exact ⟨_, .ptr h', fun w => by simp [execOp, ho, hv]⟩
theorem grd_extract {l : Array Value} {k : Nat} {v : Value} (ho : o.op = .extract x k) (hx : geval env x = some (.tuple l)) (hv : l[k]? = some v) : GRd P o env H v [] :=
  .pure fun μ N a he => by
    have h := he.eval hx
    generalize hr : a.eval x = r at h
    cases h with
    | tuple hs =>
      rename_i b
      obtain ⟨v', h1, h2⟩ := hs.get k v (by simpa using hv)
      exact ⟨v', h2, fun w => by simp [execOp, ho, hr, Instr.extract, show b[k]? = some v' by simpa using h1]⟩
/-- Two plain operands. -/
theorem grd_bin {op : BinOp} {yt : TypeId} {u v r : Value} (ho : o.op = .binOp op t x y yt) (hx : geval env x = some u) (hy : geval env y = some v) (hu : plainB u = true) (hv : plainB v = true) (hr : plainB r = true)
    (h : ∀ w, (do eqGuard op t x y u v; binOp op t u v : Sem Value).run P w = .ok r w) : GRd P o env H r [] :=
  .pure fun μ N a he => by
    have h1 := (he.eval hx).plain_eq hu
    have h2 := (he.eval hy).plain_eq hv
    refine ⟨r, .plain hr, fun w => ?_⟩
    simp only [execOp, ho, h1, h2]
    have := h w
    simp only [Sem.run_bind] at this ⊢
    rw [this]
    rfl
section ints
variable {k : IntKind} {a b : Int} {yt : TypeId}
theorem grd_add (ho : o.op = .binOp .add t x y yt) (hx : geval env x = some (.int k a)) (hy : geval env y = some (.int k b)) : GRd P o env H (.int k (k.wrap (a + b))) [] :=
  grd_bin ho hx hy rfl rfl rfl fun w => by simp [eqGuard, binOp, Op.intArith]
theorem grd_sub (ho : o.op = .binOp .sub t x y yt) (hx : geval env x = some (.int k a)) (hy : geval env y = some (.int k b)) : GRd P o env H (.int k (k.wrap (a - b))) [] :=
  grd_bin ho hx hy rfl rfl rfl fun w => by simp [eqGuard, binOp, Op.intArith]
theorem grd_mul (ho : o.op = .binOp .mul t x y yt) (hx : geval env x = some (.int k a)) (hy : geval env y = some (.int k b)) : GRd P o env H (.int k (k.wrap (a * b))) [] :=
  grd_bin ho hx hy rfl rfl rfl fun w => by simp [eqGuard, binOp, Op.intArith]
theorem grd_quo (ho : o.op = .binOp .quo t x y yt) (hx : geval env x = some (.int k a)) (hy : geval env y = some (.int k b)) (h0 : b ≠ 0) : GRd P o env H (.int k (k.wrap (a.tdiv b))) [] :=
  grd_bin ho hx hy rfl rfl rfl fun w => by simp [eqGuard, binOp, Op.intDiv, h0]
theorem grd_rem (ho : o.op = .binOp .rem t x y yt) (hx : geval env x = some (.int k a)) (hy : geval env y = some (.int k b)) (h0 : b ≠ 0) : GRd P o env H (.int k (a.tmod b)) [] :=
  grd_bin ho hx hy rfl rfl rfl fun w => by simp [eqGuard, binOp, Op.intDiv, h0]
/-- The same, where nothing runs over. -/
theorem grd_add64 (ho : o.op = .binOp .add t x y yt) (hx : geval env x = some (.int .i64 a)) (hy : geval env y = some (.int .i64 b)) (h : -9223372036854775808 ≤ a + b ∧ a + b ≤ 9223372036854775807) : GRd P o env H (.int .i64 (a + b)) [] := by
  have h1 := grd_add (P := P) (H := H) ho hx hy
  rwa [IntWalk.i64_in _ h] at h1
theorem grd_sub64 (ho : o.op = .binOp .sub t x y yt) (hx : geval env x = some (.int .i64 a)) (hy : geval env y = some (.int .i64 b)) (h : -9223372036854775808 ≤ a - b ∧ a - b ≤ 9223372036854775807) : GRd P o env H (.int .i64 (a - b)) [] := by
  have h1 := grd_sub (P := P) (H := H) ho hx hy
  rwa [IntWalk.i64_in _ h] at h1
theorem grd_mul64 (ho : o.op = .binOp .mul t x y yt) (hx : geval env x = some (.int .i64 a)) (hy : geval env y = some (.int .i64 b)) (h : -9223372036854775808 ≤ a * b ∧ a * b ≤ 9223372036854775807) : GRd P o env H (.int .i64 (a * b)) [] := by
  have h1 := grd_mul (P := P) (H := H) ho hx hy
  rwa [IntWalk.i64_in _ h] at h1
theorem grd_quo64 (ho : o.op = .binOp .quo t x y yt) (hx : geval env x = some (.int .i64 a)) (hy : geval env y = some (.int .i64 b)) (h0 : 0 < b) (ha : 0 ≤ a ∧ a ≤ 9223372036854775807) : GRd P o env H (.int .i64 (a / b)) [] := by
  have h1 := grd_quo (P := P) (H := H) ho hx hy (by omega)
  rw [Int.tdiv_eq_ediv_of_nonneg ha.1, IntWalk.i64_in _ ⟨by have := Int.ediv_nonneg ha.1 (Int.le_of_lt h0); omega, by have := Int.ediv_le_self b ha.1; omega⟩] at h1
  exact h1
theorem grd_rem64 (ho : o.op = .binOp .rem t x y yt) (hx : geval env x = some (.int k a)) (hy : geval env y = some (.int k b)) (h0 : b ≠ 0) (ha : 0 ≤ a) : GRd P o env H (.int k (a % b)) [] := by
  have h1 := grd_rem (P := P) (H := H) ho hx hy h0
  rwa [Int.tmod_eq_emod_of_nonneg ha] at h1
theorem grd_addU (ho : o.op = .binOp .add t x y yt) (hx : geval env x = some (.int .u64 a)) (hy : geval env y = some (.int .u64 b)) (h : 0 ≤ a + b ∧ a + b < 18446744073709551616) : GRd P o env H (.int .u64 (a + b)) [] := by
  have h1 := grd_add (P := P) (H := H) ho hx hy
  rwa [IntKind.wrap_u64, Int.emod_eq_of_lt h.1 h.2] at h1
theorem grd_subU (ho : o.op = .binOp .sub t x y yt) (hx : geval env x = some (.int .u64 a)) (hy : geval env y = some (.int .u64 b)) (h : 0 ≤ a - b ∧ a - b < 18446744073709551616) : GRd P o env H (.int .u64 (a - b)) [] := by
  have h1 := grd_sub (P := P) (H := H) ho hx hy
  rwa [IntKind.wrap_u64, Int.emod_eq_of_lt h.1 h.2] at h1
theorem grd_eql (ho : o.op = .binOp .eql t x y yt) (hx : geval env x = some (.int k a)) (hy : geval env y = some (.int k b)) : GRd P o env H (.bool (decide (a = b))) [] :=
  grd_bin ho hx hy rfl rfl rfl fun w => by simp [eqGuard, binOp, Op.intCmp, BEq.beq]
theorem grd_neq (ho : o.op = .binOp .neq t x y yt) (hx : geval env x = some (.int k a)) (hy : geval env y = some (.int k b)) : GRd P o env H (.bool (decide (a ≠ b))) [] :=
  grd_bin ho hx hy rfl rfl rfl fun w => by simp [eqGuard, binOp, Op.intCmp, bne, BEq.beq]
theorem grd_lss (ho : o.op = .binOp .lss t x y yt) (hx : geval env x = some (.int k a)) (hy : geval env y = some (.int k b)) : GRd P o env H (.bool (decide (a < b))) [] :=
  grd_bin ho hx hy rfl rfl rfl fun w => by simp [eqGuard, binOp, Op.intCmp]
theorem grd_leq (ho : o.op = .binOp .leq t x y yt) (hx : geval env x = some (.int k a)) (hy : geval env y = some (.int k b)) : GRd P o env H (.bool (decide (a ≤ b))) [] :=
  grd_bin ho hx hy rfl rfl rfl fun w => by simp [eqGuard, binOp, Op.intCmp]
theorem grd_gtr (ho : o.op = .binOp .gtr t x y yt) (hx : geval env x = some (.int k a)) (hy : geval env y = some (.int k b)) : GRd P o env H (.bool (decide (b < a))) [] :=
  grd_bin ho hx hy rfl rfl rfl fun w => by simp [eqGuard, binOp, Op.intCmp]
theorem grd_geq (ho : o.op = .binOp .geq t x y yt) (hx : geval env x = some (.int k a)) (hy : geval env y = some (.int k b)) : GRd P o env H (.bool (decide (b ≤ a))) [] :=
  grd_bin ho hx hy rfl rfl rfl fun w => by simp [eqGuard, binOp, Op.intCmp]
theorem grd_bits (op : BinOp) (hop : op = .and ∨ op = .or ∨ op = .xor ∨ op = .andNot) (ho : o.op = .binOp op t x y yt) (hx : geval env x = some (.int k a)) (hy : geval env y = some (.int k b)) : GRd P o env H (.int k (bits op k a b)) [] :=
  grd_bin ho hx hy rfl rfl rfl fun w => by rcases hop with rfl | rfl | rfl | rfl <;> simp [eqGuard, binOp, Op.intBits, bits]
theorem grd_shl {yk : IntKind} (ho : o.op = .binOp .shl t x y yt) (hx : geval env x = some (.int k a)) (hy : geval env y = some (.int yk b)) (h0 : 0 ≤ b) : GRd P o env H (.int k (k.wrap (a * 2 ^ (min b.toNat k.bits)))) [] :=
  grd_bin ho hx hy rfl rfl rfl fun w => by simp [eqGuard, binOp, Op.shift, show ¬ b < 0 by omega]
theorem grd_shr {yk : IntKind} (ho : o.op = .binOp .shr t x y yt) (hx : geval env x = some (.int k a)) (hy : geval env y = some (.int yk b)) (h0 : 0 ≤ b) : GRd P o env H (.int k (a.fdiv (2 ^ (min b.toNat k.bits)))) [] :=
  grd_bin ho hx hy rfl rfl rfl fun w => by simp [eqGuard, binOp, Op.shift, show ¬ b < 0 by omega]
end ints
theorem grd_seql {a b : ByteArray} {yt : TypeId} (ho : o.op = .binOp .eql t x y yt) (hx : geval env x = some (.string a)) (hy : geval env y = some (.string b)) : GRd P o env H (.bool (a.toList == b.toList)) [] :=
  grd_bin ho hx hy rfl rfl rfl fun w => by simp [eqGuard, binOp, Op.stringOp]
theorem grd_sneq {a b : ByteArray} {yt : TypeId} (ho : o.op = .binOp .neq t x y yt) (hx : geval env x = some (.string a)) (hy : geval env y = some (.string b)) : GRd P o env H (.bool (!(a.toList == b.toList))) [] :=
  grd_bin ho hx hy rfl rfl rfl fun w => by simp [eqGuard, binOp, Op.stringOp]
theorem grd_sadd {a b : ByteArray} {yt : TypeId} (ho : o.op = .binOp .add t x y yt) (hx : geval env x = some (.string a)) (hy : geval env y = some (.string b)) (h : a.size + b.size ≤ 9223372036854775807) : GRd P o env H (.string (a ++ b)) [] :=
  grd_bin ho hx hy rfl rfl rfl fun w => by
    have : ¬ (((a.size + b.size : Nat) : Int) > IntKind.i64.max) := by
      have e : IntKind.i64.max = 9223372036854775807 := by decide
      omega
    simp only [eqGuard, binOp, Op.stringOp, this]
    simp
theorem grd_not {b : Bool} (ho : o.op = .unOp .not t x) (hx : geval env x = some (.bool b)) : GRd P o env H (.bool (!b)) [] :=
  .pure fun μ N a he => ⟨.bool (!b), .bool _, fun w => by simp [execOp, ho, (he.eval hx).plain_eq rfl, Op.unary]⟩
theorem grd_neg {k : IntKind} {n : Int} (ho : o.op = .unOp .neg t x) (hx : geval env x = some (.int k n)) : GRd P o env H (.int k (k.wrap (0 - n))) [] :=
  .pure fun μ N a he => ⟨_, .int _ _, fun w => by simp [execOp, ho, (he.eval hx).plain_eq rfl, Op.unary, Op.intArith]⟩
theorem grd_beql {a b : Bool} {yt : TypeId} (hT : T.ok P) (ho : o.op = .binOp .eql t x y yt) (ht : T t = some i) (hd : i.d = .bool) (hx : geval env x = some (.bool a)) (hy : geval env y = some (.bool b)) : GRd P o env H (.bool (a == b)) [] :=
  grd_bin ho hx hy rfl rfl rfl fun w => by simp [eqGuard, binOp, run_eq_bool (Tab.bool hT ht hd)]
theorem grd_bneq {a b : Bool} {yt : TypeId} (hT : T.ok P) (ho : o.op = .binOp .neq t x y yt) (ht : T t = some i) (hd : i.d = .bool) (hx : geval env x = some (.bool a)) (hy : geval env y = some (.bool b)) : GRd P o env H (.bool (!(a == b))) [] :=
  grd_bin ho hx hy rfl rfl rfl fun w => by simp [eqGuard, binOp, run_eq_bool (Tab.bool hT ht hd)]
theorem grd_peql {p : Option Addr} {e : TypeId} {yt : TypeId} (hT : T.ok P) (ho : o.op = .binOp .eql t x y yt) (ht : T t = some i) (hd : i.d = .ptr e) (hx : geval env x = some (.pointer p)) (hy : geval env y = some (.pointer none)) : GRd P o env H (.bool p.isNone) [] :=
  .pure fun μ N a he => by
    have h := he.eval hx
    have h2 := (he.eval hy).plain_eq rfl
    generalize hv : a.eval x = v at h
    refine ⟨_, .bool _, fun w => ?_⟩
    cases h <;> simp [execOp, ho, hv, h2, eqGuard, binOp, run_eq_ptr (Tab.ptr hT ht hd)]
theorem grd_pneq {p : Option Addr} {e : TypeId} {yt : TypeId} (hT : T.ok P) (ho : o.op = .binOp .neq t x y yt) (ht : T t = some i) (hd : i.d = .ptr e) (hx : geval env x = some (.pointer p)) (hy : geval env y = some (.pointer none)) : GRd P o env H (.bool p.isSome) [] :=
  .pure fun μ N a he => by
    have h := he.eval hx
    have h2 := (he.eval hy).plain_eq rfl
    generalize hv : a.eval x = v at h
    refine ⟨_, .bool _, fun w => ?_⟩
    cases h <;> simp [execOp, ho, hv, h2, eqGuard, binOp, run_eq_ptr (Tab.ptr hT ht hd)]
theorem grd_sleql {p : Option Addr} {n c e z by_ : Nat} {zr : List Value} {yt : TypeId} (hT : T.ok P) (ho : o.op = .binOp .eql t x y yt) (ht : T t = some i) (hd : i.d = .slice e z by_ zr) (hx : geval env x = some (.slice p n c)) (hy : geval env y = some (.slice none 0 0)) : GRd P o env H (.bool p.isNone) [] :=
  .pure fun μ N a he => by
    have h := he.eval hx
    have h2 := (he.eval hy).plain_eq rfl
    generalize hv : a.eval x = v at h
    refine ⟨_, .bool _, fun w => ?_⟩
    cases h <;> simp [execOp, ho, hv, h2, eqGuard, binOp, run_eq_slice (Tab.slice hT ht hd).1]
theorem grd_slneq {p : Option Addr} {n c e z by_ : Nat} {zr : List Value} {yt : TypeId} (hT : T.ok P) (ho : o.op = .binOp .neq t x y yt) (ht : T t = some i) (hd : i.d = .slice e z by_ zr) (hx : geval env x = some (.slice p n c)) (hy : geval env y = some (.slice none 0 0)) : GRd P o env H (.bool p.isSome) [] :=
  .pure fun μ N a he => by
    have h := he.eval hx
    have h2 := (he.eval hy).plain_eq rfl
    generalize hv : a.eval x = v at h
    refine ⟨_, .bool _, fun w => ?_⟩
    cases h <;> simp [execOp, ho, hv, h2, eqGuard, binOp, run_eq_slice (Tab.slice hT ht hd).1]
end
end Go.Proofs.Ytcbngjpihcemiaa

/- The ghost walk: addresses, loads, slices, conversions. Over any program. -/
namespace Go.Proofs.Ytcbngjpihcemiaa
open Go.RowKit

theorem addr_add (g o k : Nat) : (⟨g, o, none⟩ : Addr).add k = ⟨g, o + k, none⟩ := Addr.add_lit g o k
section
variable {P : Program} {T : Tab} {o : Oper} {env : Env} {H : Hp} {x y : Operand} {t : TypeId} {i : TyI}
theorem run_size {w : World} {x : TypeInfo} (h : P.info? t = some x) : (sizeOf t).run P w = .ok x.size w := by simp [sizeOf, typeInfo, h]
theorem run_isAgg_no (hT : T.ok P) (ht : T t = some i) (ha : i.agg = false) (w : World) : (isAgg t).run P w = .ok false w := by
  obtain ⟨d, h1, h2⟩ := Tab.notAgg hT ht ha
  unfold isAgg
  simp only [Sem.run_bind, run_underlying h1, Result.andThen_ok]
  cases d <;> first | rfl | cases h2
theorem run_isAgg_yes (hT : T.ok P) (ht : T t = some i) (ha : i.agg = true) (w : World) : (isAgg t).run P w = .ok true w := by
  obtain ⟨sz, by_, zr, d⟩ := i
  cases d with
  | arr n e z =>
    obtain ⟨h1, _⟩ := Tab.arr hT ht rfl
    simp [isAgg, run_underlying h1]
  | struct fs =>
    obtain ⟨gs, h1, _⟩ := Tab.struct hT ht rfl
    simp [isAgg, run_underlying h1]
  | _ => cases ha
/-- The real cells of a run, in any world that has the block. -/
theorem SimH.run_in {μ : Ren} {w w' : World} {b : Blk} {j : Nat} (hs : SimH μ H w) (hb : H.at j = some b) (off n : Nat) (hn : off + n ≤ b.cs.length) (hk : ∀ L, μ j = some L → w'.heap[L.g]? = w.heap[L.g]?) :
    ∃ L l', μ j = some L ∧ VRs μ ((b.cs.drop off).take n) l' ∧ l'.length = n ∧ ∀ (k : Nat) (v' : Value), l'[k]? = some v' → w'.cell? ⟨L.g, L.d + off + k, none⟩ = some v' := by
  obtain ⟨L, l', h1, h2, h3, h4⟩ := hs.run hb off n hn
  exact ⟨L, l', h1, h2, h3, fun k v' hv => (World.cell?_of_block (hk L h1)).trans (h4 k v' hv)⟩
theorem VR.addr {μ : Ren} {j off : Nat} {v' : Value} {L : Loc} (h : VR μ (.pointer (some ⟨j, off, none⟩)) v') (hL : μ j = some L) : v' = .pointer (some ⟨L.g, L.d + off, none⟩) := by
  cases h with
  | ptr h' =>
    rw [hL] at h'
    injection h' with h'
    subst h'
    rfl
theorem grd_load1 {j off : Nat} {b : Blk} {v : Value} (hT : T.ok P) (ho : o.op = .load t x) (ht : T t = some i) (ha : i.agg = false) (hx : geval env x = some (.pointer (some ⟨j, off, none⟩))) (hb : H.at j = some b) (hv : b.cs[off]? = some v) : GRd P o env H v [j] := fun μ N a w hs he => by
  obtain ⟨L, v', h1, h2, h3⟩ := hs.cell hb hv
  refine ⟨v', h3, fun w' hk => ?_⟩
  have hc : w'.cell? ⟨L.g, L.d + off, none⟩ = some v' := (World.cell?_of_block (hk j (by simp) L h1)).trans h2
  have hp := (he.eval hx).addr h1
  simp [execOp, ho, hp, Instr.loadAt, Instr.sureAddr, loadVar, run_isAgg_no hT ht ha, load, Sem.run, hc]
theorem grd_loadN {j off : Nat} {b : Blk} (hT : T.ok P) (ho : o.op = .load t x) (ht : T t = some i) (ha : i.agg = true) (hx : geval env x = some (.pointer (some ⟨j, off, none⟩))) (hb : H.at j = some b) (hn : off + i.size ≤ b.cs.length) : GRd P o env H (.agg ((b.cs.drop off).take i.size).toArray) [j] := fun μ N a w hs he => by
  obtain ⟨L, l', h1, h2, h3, h4⟩ := hs.run hb off i.size hn
  refine ⟨.agg l'.toArray, .agg (by simpa using h2), fun w' hk => ?_⟩
  have hc : ∀ (k : Nat) (v' : Value), l'[k]? = some v' → w'.cell? ((⟨L.g, L.d + off, none⟩ : Addr).add k) = some v' := fun k v' hv => by
    rw [addr_add]
    exact (World.cell?_of_block (hk j (by simp) L h1)).trans (h4 k v' hv)
  have hp := (he.eval hx).addr h1
  obtain ⟨ti, q1, q2, _⟩ := Tab.size hT ht
  have hl := run_loadCells_list (P := P) w' ⟨L.g, L.d + off, none⟩ l' hc
  rw [h3] at hl
  simp [execOp, ho, hp, Instr.loadAt, Instr.sureAddr, loadVar, run_isAgg_yes hT ht ha, run_size q1, q2, hl]
theorem grd_fieldAddr {j off f fo ty sz : Nat} {gs : List (Nat × TypeId × Nat)} (hT : T.ok P) (ho : o.op = .fieldAddr t x f) (ht : T t = some i) (hd : i.d = .struct gs) (hf : gs[f]? = some (fo, ty, sz)) (hx : geval env x = some (.pointer (some ⟨j, off, none⟩))) : GRd P o env H (.pointer (some ⟨j, off + fo, none⟩)) [] :=
  .pure fun μ N a he => by
    have h := he.eval hx
    generalize hv : a.eval x = v at h
    cases h with
    | ptr hL =>
      rename_i L
      refine ⟨.pointer (some ⟨L.g, L.d + (off + fo), none⟩), .ptr hL, fun w => ?_⟩
      obtain ⟨fs, h1, _, h2⟩ := Tab.struct hT ht hd
      obtain ⟨fl, ti, h3, h4, h5, h6, h7, h8⟩ := h2 f fo ty sz hf
      subst h5
      subst h4
      have h6' : ti.size ≠ 0 := by rw [h8]; exact h6
      simp [execOp, ho, hv, Instr.fieldAt, run_underlying h1, h3, Instr.sureAddr, fieldPlace, run_size h7, h6', addr_add, Nat.add_assoc]
theorem grd_field1 {f fo ty sz : Nat} {gs : List (Nat × TypeId × Nat)} {cs : Array Value} {v : Value} {i2 : TyI} (hT : T.ok P) (ho : o.op = .field t x f) (ht : T t = some i) (hd : i.d = .struct gs) (hf : gs[f]? = some (fo, ty, sz)) (ht2 : T ty = some i2) (ha : i2.agg = false)
    (hx : geval env x = some (.agg cs)) (hv : cs[fo]? = some v) : GRd P o env H v [] :=
  .pure fun μ N a he => by
    have h := he.eval hx
    generalize hr : a.eval x = r at h
    cases h with
    | agg hs =>
      rename_i cs'
      obtain ⟨v', q1, q2⟩ := hs.get fo v (by simpa using hv)
      refine ⟨v', q2, fun w => ?_⟩
      obtain ⟨fs, h1, _, h2⟩ := Tab.struct hT ht hd
      obtain ⟨fl, ti, h3, h4, h5, h6, h7, h8⟩ := h2 f fo ty sz hf
      subst h5
      subst h4
      have q1' : cs'[fl.offset]? = some v' := by simpa using q1
      simp [execOp, ho, hr, Instr.field, run_underlying h1, h3, part, asAgg, run_isAgg_no hT ht2 ha, q1']
theorem grd_fieldN {f fo ty sz : Nat} {gs : List (Nat × TypeId × Nat)} {cs : Array Value} {i2 : TyI} (hT : T.ok P) (ho : o.op = .field t x f) (ht : T t = some i) (hd : i.d = .struct gs) (hf : gs[f]? = some (fo, ty, sz)) (ht2 : T ty = some i2) (ha : i2.agg = true)
    (hx : geval env x = some (.agg cs)) : GRd P o env H (.agg (cs.extract fo (fo + i2.size))) [] :=
  .pure fun μ N a he => by
    have h := he.eval hx
    generalize hr : a.eval x = r at h
    cases h with
    | agg hs =>
      rename_i cs'
      refine ⟨.agg (cs'.extract fo (fo + i2.size)), .agg ?_, fun w => ?_⟩
      · rw [Array.toList_extract, Array.toList_extract]
        exact (hs.drop _).take _
      obtain ⟨fs, h1, _, h2⟩ := Tab.struct hT ht hd
      obtain ⟨fl, ti, h3, h4, h5, h6, h7, h8⟩ := h2 f fo ty sz hf
      subst h5
      subst h4
      obtain ⟨ti2, q1, q2, _⟩ := Tab.size hT ht2
      simp [execOp, ho, hr, Instr.field, run_underlying h1, h3, part, asAgg, run_isAgg_yes hT ht2 ha, run_size q1, q2]
theorem grd_indexV1 {n e z : Nat} {k : IntKind} {m : Int} {cs : Array Value} {v : Value} {i2 : TyI} (hT : T.ok P) (ho : o.op = .index t x y) (ht : T t = some i) (hd : i.d = .arr n e z) (ht2 : T e = some i2) (ha : i2.agg = false)
    (hx : geval env x = some (.agg cs)) (hy : geval env y = some (.int k m)) (h0 : 0 ≤ m) (h1 : m < (n : Int)) (hv : cs[m.toNat * z]? = some v) : GRd P o env H v [] :=
  .pure fun μ N a he => by
    have h2 := (he.eval hy).plain_eq rfl
    have h := he.eval hx
    generalize hr : a.eval x = r at h
    cases h with
    | agg hs =>
      rename_i cs'
      obtain ⟨v', q1, q2⟩ := hs.get _ v (by simpa using hv)
      refine ⟨v', q2, fun w => ?_⟩
      obtain ⟨g1, xi, g2, g3⟩ := Tab.arr hT ht hd
      have q1' : cs'[m.toNat * z]? = some v' := by simpa using q1
      simp [execOp, ho, hr, h2, Instr.index, asIntOf, run_underlying g1, h0, h1, part, run_size g2, g3, run_isAgg_no hT ht2 ha, q1']
theorem grd_indexVN {n e z : Nat} {k : IntKind} {m : Int} {cs : Array Value} {i2 : TyI} (hT : T.ok P) (ho : o.op = .index t x y) (ht : T t = some i) (hd : i.d = .arr n e z) (ht2 : T e = some i2) (ha : i2.agg = true)
    (hx : geval env x = some (.agg cs)) (hy : geval env y = some (.int k m)) (h0 : 0 ≤ m) (h1 : m < (n : Int)) : GRd P o env H (.agg (cs.extract (m.toNat * z) (m.toNat * z + i2.size))) [] :=
  .pure fun μ N a he => by
    have h2 := (he.eval hy).plain_eq rfl
    have h := he.eval hx
    generalize hr : a.eval x = r at h
    cases h with
    | agg hs =>
      rename_i cs'
      refine ⟨.agg (cs'.extract (m.toNat * z) (m.toNat * z + i2.size)), .agg ?_, fun w => ?_⟩
      · rw [Array.toList_extract, Array.toList_extract]
        exact (hs.drop _).take _
      obtain ⟨g1, xi, g2, g3⟩ := Tab.arr hT ht hd
      obtain ⟨ti2, q1, q2, _⟩ := Tab.size hT ht2
      rw [q1] at g2
      injection g2 with g2
      subst g2
      simp [execOp, ho, hr, h2, Instr.index, asIntOf, run_underlying g1, h0, h1, part, run_size q1, ← g3, run_isAgg_yes hT ht2 ha, q2]
theorem grd_indexAddr {j off n c e z by_ : Nat} {zr : List Value} {k : IntKind} {m : Int} (hT : T.ok P) (ho : o.op = .indexAddr t x y) (ht : T t = some i) (hd : i.d = .slice e z by_ zr) (hx : geval env x = some (.slice (some ⟨j, off, none⟩) n c)) (hy : geval env y = some (.int k m)) (h0 : 0 ≤ m) (h1 : m < (n : Int)) :
    GRd P o env H (.pointer (some ⟨j, off + m.toNat * z, none⟩)) [] :=
  .pure fun μ N a he => by
    have h := he.eval hx
    have h2 := (he.eval hy).plain_eq rfl
    generalize hr : a.eval x = r at h
    cases h with
    | sl hL hn hm hc hu ha =>
      rename_i c' a' L
      obtain rfl := ha (by omega)
      refine ⟨.pointer (some ⟨L.g, L.d + (off + m.toNat * z), none⟩), .ptr hL, fun w => ?_⟩
      obtain ⟨q1, ti, q2, q3, _⟩ := Tab.slice hT ht hd
      simp [execOp, ho, hr, h2, Instr.indexAt, asIntOf, run_underlying q1, h0, h1, run_size q2, q3, addr_add, Nat.add_assoc]
theorem grd_indexAddrA {j off n e z : Nat} {k : IntKind} {m : Int} (hT : T.ok P) (ho : o.op = .indexAddr t x y) (ht : T t = some i) (hd : i.d = .arr n e z) (hx : geval env x = some (.pointer (some ⟨j, off, none⟩))) (hy : geval env y = some (.int k m)) (h0 : 0 ≤ m) (h1 : m < (n : Int)) :
    GRd P o env H (.pointer (some ⟨j, off + m.toNat * z, none⟩)) [] :=
  .pure fun μ N a he => by
    have h := he.eval hx
    have h2 := (he.eval hy).plain_eq rfl
    generalize hr : a.eval x = r at h
    cases h with
    | ptr hL =>
      rename_i L
      refine ⟨.pointer (some ⟨L.g, L.d + (off + m.toNat * z), none⟩), .ptr hL, fun w => ?_⟩
      obtain ⟨q1, ti, q2, q3⟩ := Tab.arr hT ht hd
      simp [execOp, ho, hr, h2, Instr.indexAt, asIntOf, Instr.sureAddr, run_underlying q1, h0, h1, run_size q2, q3, addr_add, Nat.add_assoc]
/-- The same, at elements of one cell and a natural number. -/
theorem grd_indexAddr1 {j off n c e by_ m : Nat} {zr : List Value} {k : IntKind} (hT : T.ok P) (ho : o.op = .indexAddr t x y) (ht : T t = some i) (hd : i.d = .slice e 1 by_ zr) (hx : geval env x = some (.slice (some ⟨j, off, none⟩) n c)) (hy : geval env y = some (.int k (m : Int))) (h1 : m < n) :
    GRd P o env H (.pointer (some ⟨j, off + m, none⟩)) [] := by
  have h := grd_indexAddr (H := H) hT ho ht hd hx hy (by omega) (by omega)
  rwa [Int.toNat_natCast, Nat.mul_one] at h
theorem grd_indexAddrA1 {j off n e m : Nat} {k : IntKind} (hT : T.ok P) (ho : o.op = .indexAddr t x y) (ht : T t = some i) (hd : i.d = .arr n e 1) (hx : geval env x = some (.pointer (some ⟨j, off, none⟩))) (hy : geval env y = some (.int k (m : Int))) (h1 : m < n) :
    GRd P o env H (.pointer (some ⟨j, off + m, none⟩)) [] := by
  have h := grd_indexAddrA (H := H) hT ho ht hd hx hy (by omega) (by omega)
  rwa [Int.toNat_natCast, Nat.mul_one] at h
theorem grd_indexS {s : ByteArray} {k : IntKind} {m : Int} {c : UInt8} (hT : T.ok P) (ho : o.op = .index t x y) (ht : T t = some i) (hd : i.d = .str) (hx : geval env x = some (.string s)) (hy : geval env y = some (.int k m)) (h0 : 0 ≤ m) (h1 : s[m.toNat]? = some c) : GRd P o env H (.int .u8 (c.toNat : Int)) [] :=
  .pure fun μ N a he => by
    have h2 := (he.eval hy).plain_eq rfl
    have h3 := (he.eval hx).plain_eq rfl
    exact ⟨_, .int _ _, fun w => by simp [execOp, ho, h2, h3, Instr.index, asIntOf, run_underlying (Tab.str hT ht hd), h0, h1]⟩
theorem grd_len {p : Option Addr} {n c e z by_ : Nat} {zr : List Value} {ts : Array TypeId} (hT : T.ok P) (ho : o.op = .call { callee := .builtin .len, args := #[x], argTypes := ts }) (hts : ts[0]? = some t) (ht : T t = some i) (hd : i.d = .slice e z by_ zr) (hx : geval env x = some (.slice p n c)) : GRd P o env H (.int .i64 (n : Int)) [] :=
  .pure fun μ N a he => by
    have h := he.eval hx
    generalize hr : a.eval x = r at h
    refine ⟨.int .i64 (n : Int), .int _ _, fun w => ?_⟩
    have q1 := (Tab.slice hT ht hd).1
    cases h <;> simp [execOp, ho, resolve, invoke, builtin, Builtin.len_, hr, hts, run_underlying q1, goInt]
theorem grd_lenS {s : ByteArray} {ts : Array TypeId} (hT : T.ok P) (ho : o.op = .call { callee := .builtin .len, args := #[x], argTypes := ts }) (hts : ts[0]? = some t) (ht : T t = some i) (hd : i.d = .str) (hx : geval env x = some (.string s)) : GRd P o env H (.int .i64 (s.size : Int)) [] :=
  .pure fun μ N a he => by
    have h3 := (he.eval hx).plain_eq rfl
    exact ⟨_, .int _ _, fun w => by simp [execOp, ho, resolve, invoke, builtin, Builtin.len_, h3, hts, run_underlying (Tab.str hT ht hd), goInt]⟩
theorem grd_conv {k k' : IntKind} {n : Int} {src dst : TypeId} (hT : T.ok P) (ho : o.op = .convert src dst x) (ht0 : T src = some i) {i2 : TyI} (ht : T dst = some i2) (hd : i2.d = .int k) (hx : geval env x = some (.int k' n)) : GRd P o env H (.int k (k.wrap n)) [] :=
  .pure fun μ N a he => by
    have h3 := (he.eval hx).plain_eq rfl
    refine ⟨_, .int _ _, fun w => ?_⟩
    have h4 : ∃ d, P.underlying src = some d := by
      have := Tab.snd hT ht0
      cases hu : P.underlying src with
      | some d => exact ⟨d, rfl⟩
      | none => rw [hu] at this; cases this
    obtain ⟨d, h4⟩ := h4
    simp [execOp, ho, h3, convert, run_underlying h4, run_underlying (Tab.int hT ht hd), Conv.intToInt]
theorem grd_conv_in {k k' : IntKind} {n : Int} {src dst : TypeId} (hT : T.ok P) (ho : o.op = .convert src dst x) (ht0 : T src = some i) {i2 : TyI} (ht : T dst = some i2) (hd : i2.d = .int k) (hx : geval env x = some (.int k' n)) (hn : k.wrap n = n) : GRd P o env H (.int k n) [] := by
  have h := grd_conv (H := H) hT ho ht0 ht hd hx
  rwa [hn] at h
theorem grd_str {j off n c : Nat} {b : Blk} {l : List UInt8} {src dst e z by_ : Nat} {zr : List Value} {i2 i3 : TyI} (hT : T.ok P) (ho : o.op = .convert src dst x) (ht : T src = some i) (hd : i.d = .slice e z by_ zr) (hte : T e = some i3) (hde : i3.d = .int .u8) (ht2 : T dst = some i2) (hd2 : i2.d = .str)
    (hx : geval env x = some (.slice (some ⟨j, off, none⟩) n c)) (hb : H.at j = some b) (hl : (b.cs.drop off).take n = vb l) (hn : l.length = n) : GRd P o env H (.string ⟨l.toArray⟩) [j] := fun μ N a w hs he => by
  refine ⟨_, .string _, fun w' hk => ?_⟩
  have h := he.eval hx
  generalize hr : a.eval x = r at h
  have hlen : off + n ≤ b.cs.length ∨ n = 0 := by
    have := congrArg List.length hl
    rw [List.length_take, List.length_drop, vb_length, hn] at this
    omega
  have key : ∀ (A : Option Addr) (c' : Nat), (Rd w' w'.heap.size A (vb l)) → (convert src dst (.slice A n c')).run P w' = .ok (.string ⟨l.toArray⟩) w' := fun A c' hrd =>
    run_string_rd w' src dst e (Tab.slice hT ht hd).1 (Tab.int hT hte hde) (Tab.str hT ht2 hd2) n c' l hn hrd
  cases h with
  | sl hL hn' hm hc hu ha =>
    rename_i c' a' L
    have : Rd w' w'.heap.size (some a') (vb l) := by
      rcases Nat.eq_zero_or_pos n with h0 | h0
      · have : l = [] := List.eq_nil_of_length_eq_zero (by omega)
        subst this
        exact Rd.nil_ _ _ _
      · obtain rfl := ha (by omega)
        obtain ⟨M, l', q1, q2, q3, q4⟩ := hs.run_in hb off n (by omega) (fun L hL => hk j (by simp) L hL)
        rw [hL] at q1
        injection q1 with q1
        subst q1
        rw [hl] at q2
        have q2 := q2.bytes
        subst q2
        intro k v hv
        have := q4 k v hv
        exact ⟨L.g, L.d + off, rfl, World.block_lt_of_cell? w' _ this, this⟩
    simp [execOp, ho, hr, key _ _ this]
theorem grd_str0 {src dst e z by_ : Nat} {zr : List Value} {i2 i3 : TyI} (hT : T.ok P) (ho : o.op = .convert src dst x) (ht : T src = some i) (hd : i.d = .slice e z by_ zr) (hte : T e = some i3) (hde : i3.d = .int .u8) (ht2 : T dst = some i2) (hd2 : i2.d = .str)
    (hx : geval env x = some (.slice none 0 0)) : GRd P o env H (.string ⟨#[]⟩) [] :=
  .pure fun μ N a he => by
    have h3 := (he.eval hx).plain_eq rfl
    refine ⟨_, .string _, fun w => ?_⟩
    have := run_string_rd (P := P) w src dst e (Tab.slice hT ht hd).1 (Tab.int hT hte hde) (Tab.str hT ht2 hd2) 0 0 [] rfl (Rd.nil_ w 0 none)
    simp [execOp, ho, h3, this]
theorem grd_max {k : IntKind} {a b : Int} {ts : Array TypeId} (ho : o.op = .call { callee := .builtin .max, args := #[x, y], argTypes := ts }) (hx : geval env x = some (.int k a)) (hy : geval env y = some (.int k b)) : GRd P o env H (.int k (max a b)) [] :=
  .pure fun μ N ac he => by
    have h1 := (he.eval hx).plain_eq rfl
    have h2 := (he.eval hy).plain_eq rfl
    exact ⟨_, .int _ _, fun w => by simp [execOp, ho, resolve, invoke, builtin, h1, h2, max_int2]⟩
theorem grd_min {k : IntKind} {a b : Int} {ts : Array TypeId} (ho : o.op = .call { callee := .builtin .min, args := #[x, y], argTypes := ts }) (hx : geval env x = some (.int k a)) (hy : geval env y = some (.int k b)) : GRd P o env H (.int k (min a b)) [] :=
  .pure fun μ N ac he => by
    have h1 := (he.eval hx).plain_eq rfl
    have h2 := (he.eval hy).plain_eq rfl
    exact ⟨_, .int _ _, fun w => by simp [execOp, ho, resolve, invoke, builtin, h1, h2, min_int2]⟩
theorem grd_iface {v : Value} (hd : ∀ d, P.underlying t = some d → (match d with | .interface _ => false | _ => true) = true) (hu : (P.underlying t).isSome = true) (ho : o.op = .makeInterface t x) (hx : geval env x = some v) : GRd P o env H (.iface t v) [] :=
  .pure fun μ N a he => by
    refine ⟨.iface t (a.eval x), .iface t (he.eval hx), fun w => ?_⟩
    cases hp : P.underlying t with
    | none => rw [hp] at hu; cases hu
    | some d =>
      have := hd d hp
      simp only [execOp, ho, Instr.makeInterface, Sem.run_bind, run_underlying hp, Result.andThen_ok]
      cases d <;> first | rfl | cases this
/-- A bound of a slice expression. -/
def gbound (env : Env) (x : Option Operand) (dflt v : Nat) : Prop := match x with
  | none => v = dflt
  | some y => ∃ k : IntKind, geval env y = some (.int k (v : Int))
theorem gbound_real {μ : Ren} {N : Nat} {a : Act} {bd : Option Operand} {dflt v : Nat} (he : ER μ N env a) (h : gbound env bd dflt v) : (bd = none ∧ v = dflt) ∨ ∃ y k, bd = some y ∧ a.eval y = .int k (v : Int) := by
  cases bd with
  | none => exact .inl ⟨rfl, h⟩
  | some y =>
    obtain ⟨k, h⟩ := h
    exact .inr ⟨y, k, rfl, (he.eval h).plain_eq rfl⟩
/-- What the bounds come to. -/
theorem run_bounds {μ : Ren} {N : Nat} {a : Act} {lo hi mx : Option Operand} {len cap l h m : Nat} (isS : Bool) (he : ER μ N env a) (hl : gbound env lo 0 l) (hh : gbound env hi len h) (hm : gbound env mx cap m) (hmx : mx.isSome = true → hi.isSome = true) (h1 : l ≤ h) (h2 : h ≤ m) (h3 : m ≤ cap) (w : World) :
    (Instr.sliceBounds isS len cap (lo.map a.eval) (hi.map a.eval) (mx.map a.eval)).run P w = .ok (l, h, m) w := by
  rcases gbound_real he hl with ⟨rfl, rfl⟩ | ⟨yl, kl, rfl, el⟩ <;> rcases gbound_real he hh with ⟨rfl, rfl⟩ | ⟨yh, kh, rfl, eh⟩ <;> rcases gbound_real he hm with ⟨rfl, rfl⟩ | ⟨ym, km, rfl, em⟩ <;>
    simp_all [Instr.sliceBounds, Instr.sliceBound, asIntOf]
theorem grd_slice {j off n c e z by_ l h m : Nat} {zr : List Value} {lo hi mx : Option Operand} (hT : T.ok P) (ho : o.op = .slice t x lo hi mx) (ht : T t = some i) (hd : i.d = .slice e z by_ zr) (hx : geval env x = some (.slice (some ⟨j, off, none⟩) n c))
    (hl : gbound env lo 0 l) (hh : gbound env hi n h) (hm : gbound env mx c m) (hmx : mx.isSome = true → hi.isSome = true) (h1 : l ≤ h) (h2 : h ≤ m) (h3 : m ≤ c) (hc : c < capU) : GRd P o env H (.slice (some ⟨j, off + l * z, none⟩) (h - l) (m - l)) [] :=
  .pure fun μ N a he => by
    have hv := he.eval hx
    generalize hr : a.eval x = r at hv
    cases hv with
    | sl hL hn hmm hcc hu ha =>
      rename_i c' a' L
      obtain rfl := hcc hc
      refine ⟨.slice (if m = l then some a' else (some a').map (·.add (l * z))) (h - l) (m - l), ?_, fun w => ?_⟩
      · by_cases e : m = l
        · subst e
          rw [if_pos rfl]
          exact .sl hL (by omega) (by omega) (fun _ => rfl) (fun h => by omega) (fun h => by omega)
        · rw [if_neg e]
          exact .sl hL (by omega) (by omega) (fun _ => rfl) (fun h => by omega) (fun h => by rw [ha (by omega)]; exact (addr_add _ _ _).trans (by rw [Nat.add_assoc]))
      · obtain ⟨q1, ti, q2, q3, _⟩ := Tab.slice hT ht hd
        have hb := run_bounds (P := P) (cap := c') true he hl hh hm hmx h1 h2 h3 w
        simp [execOp, ho, hr, Instr.sliceAt, run_underlying q1, Instr.slice, hb, run_size q2, q3]
theorem grd_sliceU {j off n c e z by_ l h : Nat} {zr : List Value} {lo hi : Option Operand} {b : Blk} (hT : T.ok P) (ho : o.op = .slice t x lo hi none) (ht : T t = some i) (hd : i.d = .slice e z by_ zr) (hx : geval env x = some (.slice (some ⟨j, off, none⟩) n c))
    (hl : gbound env lo 0 l) (hh : gbound env hi n h) (h1 : l ≤ h) (h2 : h ≤ n) (hc : capU ≤ c) (hb : H.at j = some b) (hz : b.z = z) : GRd P o env H (.slice (some ⟨j, off + l * z, none⟩) (h - l) capU) [] := fun μ N a w hs he => by
  have hv := he.eval hx
  generalize hr : a.eval x = r at hv
  obtain ⟨M, _, _, _, q0, qz, _⟩ := hs.dom j b hb
  cases hv with
  | sl hL hn hmm hcc hu ha =>
    rename_i c' a' L
    rw [q0] at hL
    injection hL with hL
    subst hL
    have hu := hu hc
    have hmul : off + l * z + (c' - l) * z = off + c' * z := by
      rw [Nat.add_assoc, ← Nat.add_mul]
      congr 2
      omega
    have hu2 : capU ≤ capU → M.d + (off + l * z) + (c' - l) * M.z ≤ M.S := fun _ => by
      rw [qz, hz]
      rw [qz, hz] at hu
      omega
    refine ⟨.slice (if c' = l then some a' else (some a').map (·.add (l * z))) (h - l) (c' - l), ?_, fun w' _ => ?_⟩
    · by_cases e : c' = l
      · subst e
        rw [if_pos rfl]
        exact .sl q0 (by omega) (by omega) (fun h => by unfold capU at h; omega) hu2 (fun h => by omega)
      · rw [if_neg e]
        exact .sl q0 (by omega) (by omega) (fun h => by unfold capU at h; omega) hu2 (fun h => by rw [ha (by omega)]; exact (addr_add _ _ _).trans (by rw [Nat.add_assoc]))
    · obtain ⟨q1, ti, q2, q3, _⟩ := Tab.slice hT ht hd
      have hb := run_bounds (P := P) (mx := none) (cap := c') (m := c') true he hl hh rfl (fun h => by cases h) h1 (by omega) (Nat.le_refl _) w'
      simp only [Option.map_none] at hb
      simp [execOp, ho, hr, Instr.sliceAt, run_underlying q1, Instr.slice, hb, run_size q2, q3]
theorem grd_sliceUmax {j off n c e z by_ l h m : Nat} {zr : List Value} {lo hi : Option Operand} {mx : Operand} (hT : T.ok P) (ho : o.op = .slice t x lo hi (some mx)) (ht : T t = some i) (hd : i.d = .slice e z by_ zr) (hx : geval env x = some (.slice (some ⟨j, off, none⟩) n c))
    (hl : gbound env lo 0 l) (hh : gbound env hi n h) (hm : gbound env (some mx) 0 m) (hmx : hi.isSome = true) (h1 : l ≤ h) (h2 : h ≤ m) (h3 : m ≤ n) : GRd P o env H (.slice (some ⟨j, off + l * z, none⟩) (h - l) (m - l)) [] :=
  .pure fun μ N a he => by
    have hv := he.eval hx
    generalize hr : a.eval x = r at hv
    cases hv with
    | sl hL hn hmm hcc hu ha =>
      rename_i c' a' L
      have hmc : m - l < capU := by unfold maxLen at hmm; unfold capU; omega
      refine ⟨.slice (if m = l then some a' else (some a').map (·.add (l * z))) (h - l) (m - l), ?_, fun w => ?_⟩
      · by_cases e : m = l
        · subst e
          rw [if_pos rfl]
          exact .sl hL (by omega) (by omega) (fun _ => rfl) (fun h => by omega) (fun h => by omega)
        · rw [if_neg e]
          exact .sl hL (by omega) (by omega) (fun _ => rfl) (fun h => by omega) (fun h => by rw [ha (by omega)]; exact (addr_add _ _ _).trans (by rw [Nat.add_assoc]))
      · obtain ⟨q1, ti, q2, q3, _⟩ := Tab.slice hT ht hd
        have hb := run_bounds (P := P) (cap := c') (mx := some mx) true he hl hh hm (fun _ => hmx) h1 h2 (by omega) w
        simp only [Option.map_some] at hb
        simp [execOp, ho, hr, Instr.sliceAt, run_underlying q1, Instr.slice, hb, run_size q2, q3]
theorem grd_slice0 {e z by_ : Nat} {zr : List Value} {lo hi mx : Option Operand} (hT : T.ok P) (ho : o.op = .slice t x lo hi mx) (ht : T t = some i) (hd : i.d = .slice e z by_ zr) (hx : geval env x = some (.slice none 0 0))
    (hl : gbound env lo 0 0) (hh : gbound env hi 0 0) (hm : gbound env mx 0 0) (hmx : mx.isSome = true → hi.isSome = true) : GRd P o env H (.slice none 0 0) [] :=
  .pure fun μ N a he => by
    have hr := (he.eval hx).plain_eq rfl
    refine ⟨_, .sl0, fun w => ?_⟩
    obtain ⟨q1, ti, q2, q3, _⟩ := Tab.slice hT ht hd
    have hb := run_bounds (P := P) (cap := 0) true he hl hh hm hmx (Nat.le_refl _) (Nat.le_refl _) (Nat.le_refl _) w
    simp [execOp, ho, hr, Instr.sliceAt, run_underlying q1, Instr.slice, hb, run_size q2, q3]
theorem grd_sliceA {j off n e z l h m : Nat} {lo hi mx : Option Operand} (hT : T.ok P) (ho : o.op = .slice t x lo hi mx) (ht : T t = some i) (hd : i.d = .arr n e z) (hx : geval env x = some (.pointer (some ⟨j, off, none⟩)))
    (hl : gbound env lo 0 l) (hh : gbound env hi n h) (hm : gbound env mx n m) (hmx : mx.isSome = true → hi.isSome = true) (h1 : l ≤ h) (h2 : h ≤ m) (h3 : m ≤ n) (hn : n ≤ maxLen) : GRd P o env H (.slice (some ⟨j, off + l * z, none⟩) (h - l) (m - l)) [] :=
  .pure fun μ N a he => by
    have hv := he.eval hx
    generalize hr : a.eval x = r at hv
    cases hv with
    | ptr hL =>
      rename_i L
      have hmc : m - l < capU := by unfold maxLen at hn; unfold capU; omega
      refine ⟨.slice (some (if m = l then ⟨L.g, L.d + off, none⟩ else (⟨L.g, L.d + off, none⟩ : Addr).add (l * z))) (h - l) (m - l), ?_, fun w => ?_⟩
      · by_cases e : m = l
        · subst e
          rw [if_pos rfl]
          exact .sl hL (by omega) (by omega) (fun _ => rfl) (fun h => by omega) (fun h => by omega)
        · rw [if_neg e]
          exact .sl hL (by omega) (by omega) (fun _ => rfl) (fun h => by omega) (fun h => by rw [addr_add, Nat.add_assoc])
      · obtain ⟨q1, ti, q2, q3⟩ := Tab.arr hT ht hd
        have hb := run_bounds (P := P) (cap := n) false he hl hh hm hmx h1 h2 h3 w
        simp [execOp, ho, hr, Instr.sliceAt, run_underlying q1, Instr.sureAddr, hb, run_size q2, q3]
theorem grd_sliceS {s : ByteArray} {l h : Nat} {lo hi : Option Operand} (hT : T.ok P) (ho : o.op = .slice t x lo hi none) (ht : T t = some i) (hd : i.d = .str) (hx : geval env x = some (.string s))
    (hl : gbound env lo 0 l) (hh : gbound env hi s.size h) (h1 : l ≤ h) (h2 : h ≤ s.size) : GRd P o env H (.string (s.extract l h)) [] :=
  .pure fun μ N a he => by
    have hr := (he.eval hx).plain_eq rfl
    refine ⟨_, .string _, fun w => ?_⟩
    have hb := run_bounds (P := P) (mx := none) (cap := s.size) (m := s.size) false he hl hh rfl (fun h => by cases h) h1 h2 (Nat.le_refl _) w
    simp only [Option.map_none] at hb
    simp [execOp, ho, hr, Instr.sliceAt, run_underlying (Tab.str hT ht hd), Instr.slice, hb]
theorem grd_sliceAll {j n e z : Nat} (hT : T.ok P) (ho : o.op = .slice t x none none none) (ht : T t = some i) (hd : i.d = .arr n e z) (hx : geval env x = some (.pointer (some ⟨j, 0, none⟩))) (hn : n ≤ maxLen) : GRd P o env H (.slice (some ⟨j, 0, none⟩) n n) [] := by
  have h := grd_sliceA (H := H) (l := 0) (h := n) (m := n) (lo := none) (hi := none) (mx := none) hT ho ht hd hx rfl rfl rfl (fun h => by cases h) (Nat.zero_le _) (Nat.le_refl _) (Nat.le_refl _) hn
  simpa using h
end
end Go.Proofs.Ytcbngjpihcemiaa

/- The ghost walk: rows and structs of plain cells, compared. Over any program. -/
namespace Go.Proofs.Ytcbngjpihcemiaa
open Go.RowKit

def ckB : CK → Value → Bool
  | .int k, .int l _ => k == l
  | .bool, .bool _ => true
  | .str, .string _ => true
  | _, _ => false
def fitB : List CK → List Value → Bool
  | [], [] => true
  | a :: l, b :: m => ckB a b && fitB l m
  | _, _ => false
def cEq : Value → Value → Bool
  | .int _ a, .int _ b => a == b
  | .bool a, .bool b => a == b
  | .string a, .string b => a.toList == b.toList
  | _, _ => true
def lEq : List Value → List Value → Bool
  | a :: l, b :: m => cEq a b && lEq l m
  | _, _ => true
theorem fit_plain : ∀ {ks : List CK} {l : List Value}, fitB ks l = true → ∀ v ∈ l, plainB v = true
  | [], [], _, v, hv => by cases hv
  | k :: ks, u :: l, h, v, hv => by
    simp only [fitB, Bool.and_eq_true] at h
    rcases List.mem_cons.1 hv with rfl | hv
    · have h1 := h.1
      cases k <;> cases v <;> first | rfl | cases h1
    · exact fit_plain h.2 v hv
  | [], _ :: _, h, _, _ => by cases h
  | _ :: _, [], h, _, _ => by cases h
theorem fit_len : ∀ {ks : List CK} {l : List Value}, fitB ks l = true → l.length = ks.length
  | [], [], _ => rfl
  | k :: ks, u :: l, h => by
    simp only [fitB, Bool.and_eq_true] at h
    simp [fit_len h.2]
  | [], _ :: _, h => by cases h
  | _ :: _, [], h => by cases h
theorem fit_append : ∀ {ks ks2 : List CK} {l : List Value}, fitB (ks ++ ks2) l = true → fitB ks (l.take ks.length) = true ∧ fitB ks2 (l.drop ks.length) = true
  | [], ks2, l, h => by simpa [fitB] using h
  | k :: ks, ks2, u :: l, h => by
    simp only [List.cons_append, fitB, Bool.and_eq_true] at h
    obtain ⟨h1, h2⟩ := fit_append h.2
    exact ⟨by simp [fitB, h.1, h1], by simpa using h2⟩
  | k :: ks, ks2, [], h => by cases h
theorem lEq_append : ∀ {a b c d : List Value}, a.length = b.length → lEq (a ++ c) (b ++ d) = (lEq a b && lEq c d)
  | [], [], c, d, _ => by simp [lEq]
  | x :: a, y :: b, c, d, h => by
    simp only [List.cons_append, lEq]
    rw [lEq_append (by simpa using h), Bool.and_assoc]
  | [], _ :: _, _, _, h => by simp at h
  | _ :: _, [], _, _, h => by simp at h
theorem lEq_split (n : Nat) {l m : List Value} (h : l.length = m.length) : lEq l m = (lEq (l.take n) (m.take n) && lEq (l.drop n) (m.drop n)) := by
  conv => lhs; rw [← List.take_append_drop n l, ← List.take_append_drop n m]
  exact lEq_append (by simp [h])
theorem fit_one {k : CK} {l : List Value} (h : fitB [k] l = true) : ∃ u, l = [u] ∧ ckB k u = true := by
  have h1 := fit_len h
  match l, h1, h with
  | [u], _, h => exact ⟨u, rfl, by simpa [fitB] using h⟩
section
variable {P : Program}
/-- A value of a flat type. -/
def aggP (P : Program) (t : TypeId) : Bool := match P.underlying t with
  | some (.struct _) => true
  | some (.array _ _) => true
  | _ => false
def mkV (b : Bool) (l : List Value) : Value := bif b then .agg l.toArray else l.headD (.bool false)
theorem flatT_pos {n : Nat} {t : TypeId} {ks : List CK} (h : flatT P n t = some ks) : ∃ d, P.underlying t = some d := by
  cases n with
  | zero => cases h
  | succ n =>
    unfold flatT at h
    split at h <;> first | (rename_i hu; exact ⟨_, hu⟩) | cases h
theorem part_flat {t : TypeId} {i : TypeInfo} {n : Nat} {ks : List CK} {xs : Array Value} {off : Nat} (w : World) (hi : P.info? t = some i) (hs : i.size = ks.length) (hf : flatT P n t = some ks) (hl : fitB ks ((xs.toList.drop off).take ks.length) = true) : (part t xs off).run P w = .ok (mkV (aggP P t) ((xs.toList.drop off).take ks.length)) w := by
  obtain ⟨d, hu⟩ := flatT_pos hf
  have hag : (isAgg t).run P w = .ok (aggP P t) w := by
    unfold isAgg aggP
    cases d <;> simp [run_underlying hu, hu]
  have scalar : ∀ k, ks = [k] → aggP P t = false → (part t xs off).run P w = .ok (mkV (aggP P t) ((xs.toList.drop off).take ks.length)) w := fun k hk ha => by
    subst hk
    rw [ha] at hag
    have h1 := fit_len hl
    cases hx : (xs.toList.drop off) with
    | nil => rw [hx] at h1; simp at h1
    | cons v rest =>
      have hg : xs[off]? = some v := by
        have : (xs.toList.drop off)[0]? = some v := by rw [hx]; rfl
        rw [List.getElem?_drop] at this
        simpa using this
      simp [part, hag, hg, ha, mkV]
  have agg : aggP P t = true → (part t xs off).run P w = .ok (mkV (aggP P t) ((xs.toList.drop off).take ks.length)) w := fun ha => by
    rw [ha] at hag
    have : xs.extract off (off + ks.length) = ((xs.toList.drop off).take ks.length).toArray := by
      apply Array.ext'
      rw [Array.toList_extract]
      simp [List.extract]
    simp [part, hag, ha, mkV, run_size hi, hs, this]
  cases n with
  | zero => cases hf
  | succ n =>
    cases d with
    | int k => refine scalar (.int k) ?_ (by simp [aggP, hu]); unfold flatT at hf; rw [hu] at hf; simpa using hf.symm
    | bool => refine scalar .bool ?_ (by simp [aggP, hu]); unfold flatT at hf; rw [hu] at hf; simpa using hf.symm
    | string => refine scalar .str ?_ (by simp [aggP, hu]); unfold flatT at hf; rw [hu] at hf; simpa using hf.symm
    | array n e => exact agg (by simp [aggP, hu])
    | struct fs => exact agg (by simp [aggP, hu])
    | _ => unfold flatT at hf; rw [hu] at hf; cases hf
def EqFlat (P : Program) (D : Nat) (t : TypeId) (ks : List CK) : Prop := ∀ (w : World) (l m : List Value), fitB ks l = true → fitB ks m = true → (Op.equalIn D t (mkV (aggP P t) l) (mkV (aggP P t) m)).run P w = .ok (lEq l m) w
theorem eqFields_flat (D n : Nat) (xs ys : Array Value) (hg : ∀ t ks, flatT P n t = some ks → EqFlat P D t ks) (w : World) : ∀ (fs : List Field) (off : Nat) (ks : List CK), flatF P (flatT P n) fs off = some ks → fitB ks (xs.toList.drop off) = true → fitB ks (ys.toList.drop off) = true → (Op.eqFields D xs ys fs).run P w = .ok (lEq (xs.toList.drop off) (ys.toList.drop off)) w
  | [], off, ks, hf, hx, hy => by
    simp only [flatF, Option.some.injEq] at hf
    subst hf
    have e1 := List.eq_nil_of_length_eq_zero (fit_len hx)
    have e2 := List.eq_nil_of_length_eq_zero (fit_len hy)
    rw [e1, e2]
    simp [Op.eqFields, lEq]
  | f :: fs, off, ks, hf, hx, hy => by
    unfold flatF at hf
    cases hb : (f.offset == off && f.name != "_") with
    | false => rw [hb] at hf; cases hf
    | true =>
      rw [hb] at hf
      simp only [Bool.and_eq_true, beq_iff_eq, bne_iff_ne] at hb
      obtain ⟨ho, hnm⟩ := hb
      simp only [cond_true] at hf
      split at hf
      · rename_i k1 i l h1 h2 h3
        cases hb2 : (i.size == k1.length) with
        | false => rw [hb2] at hf; cases hf
        | true =>
          rw [hb2] at hf
          simp only [beq_iff_eq] at hb2
          simp only [cond_true, Option.some.injEq] at hf
          subst hf
          rw [h2] at h3
          simp only [hb2] at h3
          obtain ⟨hx1, hx2⟩ := fit_append hx
          obtain ⟨hy1, hy2⟩ := fit_append hy
          have ih := eqFields_flat D n xs ys hg w fs _ _ h3 (by rw [← List.drop_drop]; exact hx2) (by rw [← List.drop_drop]; exact hy2)
          have p1 := part_flat w h2 hb2 h1 hx1
          have p2 := part_flat w h2 hb2 h1 hy1
          have p3 := hg _ _ h1 w _ _ hx1 hy1
          rw [lEq_split k1.length (by rw [fit_len hx, fit_len hy]), List.drop_drop, List.drop_drop]
          simp only [Op.eqFields, hnm, ne_eq, not_false_eq_true, if_true, ho, Sem.run_bind, p1, p2, p3, Result.andThen_ok]
          cases lEq ((xs.toList.drop off).take k1.length) ((ys.toList.drop off).take k1.length) with
          | false => simp
          | true => simpa using ih
      · cases hf
theorem eqItems_flat (D n : Nat) {e : TypeId} {ks : List CK} {i : TypeInfo} (xs ys : Array Value) (hi : P.info? e = some i) (hs : i.size = ks.length) (hf : flatT P n e = some ks) (hg : EqFlat P D e ks) (w : World) : ∀ (len j : Nat), fitB (List.replicate len ks).flatten (xs.toList.drop (j * ks.length)) = true → fitB (List.replicate len ks).flatten (ys.toList.drop (j * ks.length)) = true → (Op.eqItems D e ks.length xs ys (List.range' j len)).run P w = .ok (lEq (xs.toList.drop (j * ks.length)) (ys.toList.drop (j * ks.length))) w
  | 0, j, hx, hy => by
    have e1 := List.eq_nil_of_length_eq_zero (fit_len hx)
    have e2 := List.eq_nil_of_length_eq_zero (fit_len hy)
    rw [e1, e2]
    simp [Op.eqItems, lEq]
  | len + 1, j, hx, hy => by
    rw [List.replicate_succ, List.flatten_cons] at hx hy
    have hl : (xs.toList.drop (j * ks.length)).length = (ys.toList.drop (j * ks.length)).length := by rw [fit_len hx, fit_len hy]
    obtain ⟨hx1, hx2⟩ := fit_append hx
    obtain ⟨hy1, hy2⟩ := fit_append hy
    rw [List.drop_drop, ← Nat.succ_mul] at hx2 hy2
    have ih := eqItems_flat D n xs ys hi hs hf hg w len (j + 1) hx2 hy2
    have p1 := part_flat w hi hs hf hx1
    have p2 := part_flat w hi hs hf hy1
    have p3 := hg w _ _ hx1 hy1
    rw [lEq_split ks.length hl, List.drop_drop, List.drop_drop, ← Nat.succ_mul]
    simp only [List.range'_succ, Op.eqItems, Sem.run_bind, p1, p2, p3, Result.andThen_ok]
    cases lEq ((xs.toList.drop (j * ks.length)).take ks.length) ((ys.toList.drop (j * ks.length)).take ks.length) with
    | false => simp
    | true => simpa using ih
theorem eq_flat : ∀ (n d : Nat) (t : TypeId) (ks : List CK), flatT P n t = some ks → EqFlat P (d + n) t ks
  | 0, _, _, _, h => by cases h
  | n + 1, d, t, ks, h => fun w l m hl hm => by
    unfold flatT at h
    split at h
    · rename_i k hu
      injection h with h
      subst h
      obtain ⟨u, rfl, hl2⟩ := fit_one hl
      obtain ⟨v, rfl, hm2⟩ := fit_one hm
      · cases u <;> cases v <;> first | (cases hl2; done) | (cases hm2; done) | skip
        simp only [ckB, beq_iff_eq] at hl2 hm2
        subst hl2 hm2
        simp [mkV, aggP, hu, lEq, cEq, Op.equalIn, run_underlying hu]
    · rename_i hu
      injection h with h
      subst h
      obtain ⟨u, rfl, hl2⟩ := fit_one hl
      obtain ⟨v, rfl, hm2⟩ := fit_one hm
      · cases u <;> cases v <;> first | (cases hl2; done) | (cases hm2; done) | skip
        simp [mkV, aggP, hu, lEq, cEq, Op.equalIn, run_underlying hu]
    · rename_i hu
      injection h with h
      subst h
      obtain ⟨u, rfl, hl2⟩ := fit_one hl
      obtain ⟨v, rfl, hm2⟩ := fit_one hm
      · cases u <;> cases v <;> first | (cases hl2; done) | (cases hm2; done) | skip
        simp [mkV, aggP, hu, lEq, cEq, Op.equalIn, run_underlying hu, beq_toListBytes]
    · rename_i len e hu
      split at h
      · rename_i k1 i h1 h2
        cases hb2 : (i.size == k1.length) with
        | false => rw [hb2] at h; cases h
        | true =>
          rw [hb2] at h
          simp only [beq_iff_eq] at hb2
          simp only [cond_true, Option.some.injEq] at h
          subst h
          have hc : P.cellsOf e = k1.length := by simp [Program.cellsOf, h2, hb2]
          have := eqItems_flat (d + n) n l.toArray m.toArray h2 hb2 h1 (eq_flat n d e k1 h1) w len 0 (by simpa using hl) (by simpa using hm)
          simp only [mkV, aggP, hu, cond_true]
          rw [show d + (n + 1) = (d + n) + 1 from rfl, run_equalIn_array w (d + n) _ _ hu h2, hc, List.range_eq_range']
          simpa using this
      · cases h
    · rename_i fs hu
      cases hb : P.stoodInHeld t with
      | true => rw [hb] at h; cases h
      | false =>
        rw [hb] at h
        simp only [cond_false] at h
        have hfs : P.fieldsOf t = fs := by simp [Program.fieldsOf, hu]
        have := eqFields_flat (d + n) n l.toArray m.toArray (fun t ks hk => eq_flat n d t ks hk) w fs.toList 0 ks h (by simpa using hl) (by simpa using hm)
        simp only [mkV, aggP, hu, cond_true]
        rw [show d + (n + 1) = (d + n) + 1 from rfl, run_equalIn_struct w (d + n) t _ _ (by rw [hfs]; exact hu) hb, hfs]
        simpa using this
    · cases h
end
section
variable {P : Program} {T : Tab} {o : Oper} {env : Env} {H : Hp} {x y : Operand} {t : TypeId} {i : TyI}
theorem agg_eq (hT : T.ok P) (ht : T t = some i) (hk : i.ks.isEmpty = false) {xs ys : Array Value} (hx : fitB i.ks xs.toList = true) (hy : fitB i.ks ys.toList = true) (ha : i.agg = true) (w : World) : (Op.equalIn 10000 t (.agg xs) (.agg ys)).run P w = .ok (lEq xs.toList ys.toList) w ∧ P.eqGuardType P.depth t = false := by
  have h1 := Tab.flat hT ht hk
  unfold flatB at h1
  split at h1
  · rename_i l hl
    simp only [Bool.and_eq_true, Bool.not_eq_true'] at h1
    obtain ⟨h2, h3⟩ := h1
    obtain rfl := cksEq_eq h2
    refine ⟨?_, h3⟩
    have := eq_flat 20 9980 t _ hl w _ _ hx hy
    have hag : aggP P t = true := by
      have h4 := Tab.snd hT ht
      obtain ⟨_, _, _, d, _, _⟩ := i
      unfold aggP
      cases d <;> simp only [TyI.agg] at ha h4 <;> first | (cases ha; done) | (split at h4 <;> first | (rename_i hu _; rw [hu]; done) | (rename_i hu; rw [hu]; done) | (simp_all; done))
    rw [hag] at this
    exact this
  · cases h1
theorem grd_aeql {xs ys : Array Value} {yt : TypeId} (hT : T.ok P) (ho : o.op = .binOp .eql t x y yt) (ht : T t = some i) (hk : i.ks.isEmpty = false) (ha : i.agg = true) (hx : geval env x = some (.agg xs)) (hy : geval env y = some (.agg ys)) (fx : fitB i.ks xs.toList = true) (fy : fitB i.ks ys.toList = true) : GRd P o env H (.bool (lEq xs.toList ys.toList)) [] :=
  .pure fun μ N a he => by
    have h1 := he.eval hx
    have h2 := he.eval hy
    generalize hr : a.eval x = r at h1
    generalize hr2 : a.eval y = r2 at h2
    cases h1 with
    | agg q1 =>
      cases h2 with
      | agg q2 =>
        rename_i xs' ys'
        obtain rfl : xs' = xs := Array.ext' (q1.plain_eq (fit_plain fx))
        obtain rfl : ys' = ys := Array.ext' (q2.plain_eq (fit_plain fy))
        refine ⟨_, .bool _, fun w => ?_⟩
        obtain ⟨e1, e2⟩ := agg_eq hT ht hk fx fy ha w
        simp [execOp, ho, hr, hr2, run_eqGuard_agg w _ t x y _ _ e2, run_eql_struct, e1]
theorem grd_aneq {xs ys : Array Value} {yt : TypeId} (hT : T.ok P) (ho : o.op = .binOp .neq t x y yt) (ht : T t = some i) (hk : i.ks.isEmpty = false) (ha : i.agg = true) (hx : geval env x = some (.agg xs)) (hy : geval env y = some (.agg ys)) (fx : fitB i.ks xs.toList = true) (fy : fitB i.ks ys.toList = true) : GRd P o env H (.bool (!lEq xs.toList ys.toList)) [] :=
  .pure fun μ N a he => by
    have h1 := he.eval hx
    have h2 := he.eval hy
    generalize hr : a.eval x = r at h1
    generalize hr2 : a.eval y = r2 at h2
    cases h1 with
    | agg q1 =>
      cases h2 with
      | agg q2 =>
        rename_i xs' ys'
        obtain rfl : xs' = xs := Array.ext' (q1.plain_eq (fit_plain fx))
        obtain rfl : ys' = ys := Array.ext' (q2.plain_eq (fit_plain fy))
        refine ⟨_, .bool _, fun w => ?_⟩
        obtain ⟨e1, e2⟩ := agg_eq hT ht hk fx fy ha w
        simp [execOp, ho, hr, hr2, run_eqGuard_agg w _ t x y _ _ e2, run_neq_struct, e1]
theorem grd_aeqlK {xs ys : Array Value} {yt : TypeId} {b : Bool} (hT : T.ok P) (ho : o.op = .binOp .eql t x y yt) (ht : T t = some i) (hk : i.ks.isEmpty = false) (ha : i.agg = true) (hx : geval env x = some (.agg xs)) (hy : geval env y = some (.agg ys)) (fx : fitB i.ks xs.toList = true) (fy : fitB i.ks ys.toList = true) (e : lEq xs.toList ys.toList = b) : GRd P o env H (.bool b) [] := by
  subst e
  exact grd_aeql hT ho ht hk ha hx hy fx fy
theorem grd_aneqK {xs ys : Array Value} {yt : TypeId} {b : Bool} (hT : T.ok P) (ho : o.op = .binOp .neq t x y yt) (ht : T t = some i) (hk : i.ks.isEmpty = false) (ha : i.agg = true) (hx : geval env x = some (.agg xs)) (hy : geval env y = some (.agg ys)) (fx : fitB i.ks xs.toList = true) (fy : fitB i.ks ys.toList = true) (e : lEq xs.toList ys.toList = b) : GRd P o env H (.bool (!b)) [] := by
  subst e
  exact grd_aneq hT ho ht hk ha hx hy fx fy
theorem grd_loadNK {j off : Nat} {b : Blk} {cs : List Value} (hT : T.ok P) (ho : o.op = .load t x) (ht : T t = some i) (ha : i.agg = true) (hx : geval env x = some (.pointer (some ⟨j, off, none⟩))) (hb : H.at j = some b) (hn : off + i.size ≤ b.cs.length) (e : (b.cs.drop off).take i.size = cs) : GRd P o env H (.agg cs.toArray) [j] := by
  subst e
  exact grd_loadN hT ho ht ha hx hb hn
end
section
variable {P : Program} {T : Tab} {o : Oper} {env : Env} {H : Hp} {x y : Operand} {t : TypeId} {i : TyI}
/-- No interface, and known. -/
def ifaceD (i : TyI) : Bool := match i.d with
  | .iface => true
  | .other => true
  | _ => false
def izero (i : TyI) : Option Value := match i.zero with
  | a :: b :: l => some (.agg (a :: b :: l).toArray)
  | [a] => bif i.agg then none else some a
  | _ => none
theorem Tab.notIface {t : TypeId} {i : TyI} (hT : T.ok P) (h : T t = some i) (ha : ifaceD i = false) : ∃ d, P.underlying t = some d ∧ (match d with | .interface _ => false | _ => true) = true := by
  have h1 := Tab.snd hT h
  obtain ⟨s, b, z, d⟩ := i
  cases hu : P.underlying t with
  | none =>
    rw [hu] at h1
    exact (Bool.false_ne_true h1).elim
  | some u =>
    refine ⟨u, rfl, ?_⟩
    rw [hu] at h1
    cases u with
    | interface m =>
      exfalso
      cases d with
      | iface => cases ha
      | other => cases ha
      | _ => exact (Bool.false_ne_true h1).elim
    | _ => rfl
theorem two_cells {z : Value} {a b : Value} {l : List Value} (h : z.cells.toList = a :: b :: l) : z = .agg (a :: b :: l).toArray := by
  cases z <;> first | (simp [Value.cells] at h; done) | (simp only [Value.cells] at h; rw [← h])
theorem izero_sound {i : TyI} {z : Value} (hT : T.ok P) (ht : T t = some i) (h : izero i = some z) : VR (fun _ => none) z z ∧ ∀ w : World, (zeroValue t).run P w = .ok z w := by
  unfold izero at h
  split at h
  · rename_i a b l hz
    injection h with h
    subst h
    obtain ⟨ti, q1, q2, q3, q4⟩ := Tab.size hT ht
    obtain ⟨z, q5, q6, q7⟩ := q4 (by rw [hz]; simp)
    rw [hz] at q6 q7
    obtain rfl := two_cells q6
    exact ⟨.agg (.plain q7), fun w => by simp [zeroValue, typeInfo, q1, q5]⟩
  · rename_i a hz
    obtain ⟨h1, h⟩ : i.agg = false ∧ some a = some z := by
      cases hag : i.agg with
      | true => rw [hag] at h; cases h
      | false => rw [hag] at h; exact ⟨rfl, h⟩
    injection h with h
    subst h
    obtain ⟨x, q1, q2, q3⟩ := Tab.one hT ht h1 hz
    exact ⟨.plain q3, fun w => by simp [zeroValue, typeInfo, q1, q2]⟩
  · cases h
theorem Tab.isIface {t : TypeId} {i : TyI} (hT : T.ok P) (h : T t = some i) (hd : i.d = .iface) : ∃ m, P.underlying t = some (.interface m) := by
  have h1 := Tab.snd hT h
  rw [hd] at h1
  cases hu : P.underlying t with
  | none =>
    rw [hu] at h1
    exact (Bool.false_ne_true h1).elim
  | some u =>
    rw [hu] at h1
    cases u with
    | interface m => exact ⟨m, rfl⟩
    | _ => exact (Bool.false_ne_true h1).elim
theorem eqIn_iface (w : World) (d : Nat) {t : TypeId} {m : Array (String × TypeId)} (s : TypeId) (v : Value) (h : P.underlying t = some (.interface m)) : (Op.equalIn (d + 1) t (.iface s v) .nilIface).run P w = .ok false w := by
  unfold Op.equalIn
  simp [run_underlying h]
theorem eqIn_niface (w : World) (d : Nat) {t : TypeId} {m : Array (String × TypeId)} (h : P.underlying t = some (.interface m)) : (Op.equalIn (d + 1) t .nilIface .nilIface).run P w = .ok true w := by
  unfold Op.equalIn
  simp [run_underlying h]
theorem eqGuard_iface (w : World) (d : Nat) {t : TypeId} {m : Array (String × TypeId)} (s : TypeId) (v : Value) (h : P.underlying t = some (.interface m)) : (Op.eqGuardIn (d + 1) t (.iface s v) .nilIface).run P w = .ok false w := by
  unfold Op.eqGuardIn
  simp [run_underlying h]
theorem run_guard_iface (w : World) {t : TypeId} {m : Array (String × TypeId)} (s : TypeId) (v : Value) (h : P.underlying t = some (.interface m)) : (Op.eqGuardIn Op.maxDepth t (.iface s v) .nilIface).run P w = .ok false w := eqGuard_iface w 9999 s v h
theorem run_eq_iface (w : World) {t : TypeId} {m : Array (String × TypeId)} (s : TypeId) (v : Value) (h : P.underlying t = some (.interface m)) : (Op.equal t (.iface s v) .nilIface).run P w = .ok false w := eqIn_iface w 9999 s v h
theorem run_eq_niface (w : World) {t : TypeId} {m : Array (String × TypeId)} (h : P.underlying t = some (.interface m)) : (Op.equal t .nilIface .nilIface).run P w = .ok true w := eqIn_niface w 9999 h
theorem grd_ieq {s : TypeId} {u : Value} {yt : TypeId} (hT : T.ok P) (ho : o.op = .binOp .eql t x (.const .nilIface) yt) (ht : T t = some i) (hd : i.d = .iface) (hx : geval env x = some (.iface s u)) : GRd P o env H (.bool false) [] :=
  .pure fun μ N a he => by
    obtain ⟨m, hm⟩ := Tab.isIface hT ht hd
    have h1 := he.eval hx
    generalize hv : a.eval x = v at h1
    refine ⟨_, .bool _, fun w => ?_⟩
    cases h1
    have hc : a.eval (.const .nilIface) = .nilIface := rfl
    simp [execOp, ho, hv, hc, eqGuard, binOp, run_eq_iface _ _ _ hm]
theorem grd_ineq {s : TypeId} {u : Value} {yt : TypeId} (hT : T.ok P) (ho : o.op = .binOp .neq t x (.const .nilIface) yt) (ht : T t = some i) (hd : i.d = .iface) (hx : geval env x = some (.iface s u)) : GRd P o env H (.bool true) [] :=
  .pure fun μ N a he => by
    obtain ⟨m, hm⟩ := Tab.isIface hT ht hd
    have h1 := he.eval hx
    generalize hv : a.eval x = v at h1
    refine ⟨_, .bool _, fun w => ?_⟩
    cases h1
    have hc : a.eval (.const .nilIface) = .nilIface := rfl
    simp [execOp, ho, hv, hc, eqGuard, binOp, run_eq_iface _ _ _ hm]
theorem grd_ieq0 {yt : TypeId} (hT : T.ok P) (ho : o.op = .binOp .eql t x (.const .nilIface) yt) (ht : T t = some i) (hd : i.d = .iface) (hx : geval env x = some .nilIface) : GRd P o env H (.bool true) [] :=
  .pure fun μ N a he => by
    obtain ⟨m, hm⟩ := Tab.isIface hT ht hd
    have hv := (he.eval hx).plain_eq rfl
    have hc : a.eval (.const .nilIface) = .nilIface := rfl
    exact ⟨_, .bool _, fun w => by simp [execOp, ho, hv, hc, eqGuard, binOp, run_eq_niface _ hm]⟩
theorem grd_ineq0 {yt : TypeId} (hT : T.ok P) (ho : o.op = .binOp .neq t x (.const .nilIface) yt) (ht : T t = some i) (hd : i.d = .iface) (hx : geval env x = some .nilIface) : GRd P o env H (.bool false) [] :=
  .pure fun μ N a he => by
    obtain ⟨m, hm⟩ := Tab.isIface hT ht hd
    have hv := (he.eval hx).plain_eq rfl
    have hc : a.eval (.const .nilIface) = .nilIface := rfl
    exact ⟨_, .bool _, fun w => by simp [execOp, ho, hv, hc, eqGuard, binOp, run_eq_niface _ hm]⟩
theorem grd_mkI {v : Value} (hT : T.ok P) (ho : o.op = .makeInterface t x) (ht : T t = some i) (hi : ifaceD i = false) (hx : geval env x = some v) : GRd P o env H (.iface t v) [] := by
  obtain ⟨d, hd, hd2⟩ := Tab.notIface hT ht hi
  exact grd_iface (fun d' h' => by rw [hd] at h'; injection h' with h'; subst h'; exact hd2) (by rw [hd]; rfl) ho hx
theorem grd_assertY {xt : TypeId} {u : Value} (hT : T.ok P) (ho : o.op = .typeAssert x xt t true) (ht : T t = some i) (hi : ifaceD i = false) (hx : geval env x = some (.iface t u)) : GRd P o env H (.tuple #[u, .bool true]) [] :=
  .pure fun μ N a he => by
    obtain ⟨d, hd, hd2⟩ := Tab.notIface hT ht hi
    have hv := he.eval hx
    generalize hr : a.eval x = rx at hv
    cases hv with
    | iface _ hu =>
      rename_i u'
      exact ⟨.tuple #[u', .bool true], .tuple (.cons hu (.cons (.bool _) .nil)), fun w => by
        simp only [execOp, ho, hr, Instr.typeAssert, Sem.run_bind, run_underlying hd, Result.andThen_ok]
        cases d <;> first | (simp; done) | cases hd2⟩
theorem vr_up {μ : Ren} {u : Value} (h : VR (fun _ => none) u u) : VR μ u u := h.mono fun _ _ e => by cases e
theorem grd_assertN {xt t' : TypeId} {u z : Value} (hT : T.ok P) (ho : o.op = .typeAssert x xt t true) (ht : T t = some i) (hi : ifaceD i = false) (hx : geval env x = some (.iface t' u)) (hz : izero i = some z) (hne : t' ≠ t) : GRd P o env H (.tuple #[z, .bool false]) [] :=
  .pure fun μ N a he => by
    obtain ⟨d, hd, hd2⟩ := Tab.notIface hT ht hi
    obtain ⟨z1, z2⟩ := izero_sound hT ht hz
    have hv := he.eval hx
    generalize hr : a.eval x = rx at hv
    cases hv with
    | iface _ hu =>
      refine ⟨.tuple #[z, .bool false], .tuple (.cons (vr_up z1) (.cons (.bool _) .nil)), fun w => ?_⟩
      simp only [execOp, ho, hr, Instr.typeAssert, Sem.run_bind, run_underlying hd, Result.andThen_ok]
      cases d <;> first | (simp [hne, z2]; done) | cases hd2
theorem grd_assert0 {xt : TypeId} {z : Value} (hT : T.ok P) (ho : o.op = .typeAssert x xt t true) (ht : T t = some i) (hi : ifaceD i = false) (hx : geval env x = some .nilIface) (hz : izero i = some z) : GRd P o env H (.tuple #[z, .bool false]) [] :=
  .pure fun μ N a he => by
    obtain ⟨d, hd, hd2⟩ := Tab.notIface hT ht hi
    obtain ⟨z1, z2⟩ := izero_sound hT ht hz
    have hv := (he.eval hx).plain_eq rfl
    refine ⟨.tuple #[z, .bool false], .tuple (.cons (vr_up z1) (.cons (.bool _) .nil)), fun w => ?_⟩
    simp only [execOp, ho, hv, Instr.typeAssert, Sem.run_bind, run_underlying hd, Result.andThen_ok]
    cases d <;> first | (simp [z2]; done) | cases hd2
end
end Go.Proofs.Ytcbngjpihcemiaa

/- The ghost walk: stores, new variables, slices made. Over any program. -/
namespace Go.Proofs.Ytcbngjpihcemiaa
open Go.RowKit

/-- Cells stored, one behind the other. -/
def gsets : List Value → Nat → List Value → List Value
  | cs, _, [] => cs
  | cs, o, v :: vs => gsets (cs.set o v) (o + 1) vs
theorem gsets_splice : ∀ (vs cs : List Value) (o : Nat), o + vs.length ≤ cs.length → gsets cs o vs = splice cs o vs
  | [], cs, o, _ => by simp [gsets, splice]
  | v :: vs, cs, o, h => by
    simp only [List.length_cons] at h
    rw [gsets, gsets_splice vs (cs.set o v) (o + 1) (by rw [List.length_set]; omega)]
    unfold splice
    have h1 : (cs.set o v).take (o + 1) = cs.take o ++ [v] := by
      rw [List.take_succ_eq_append_getElem (by rw [List.length_set]; omega), List.getElem_set_self, List.take_set_of_le (by omega)]
    have h2 : (cs.set o v).drop (o + 1 + vs.length) = cs.drop (o + (vs.length + 1)) := by
      rw [List.drop_set_of_lt (by omega)]
      congr 1
      omega
    rw [h1, h2]
    simp
theorem Hp.put_put (H : Hp) (j : Nat) (b c : Blk) : (H.put j b).put j c = H.put j c := by simp [Hp.put]
theorem Hp.at_push_id {H : Hp} {b : Blk} {i : Nat} (h : i = H.length) : (H.push b).at i = some b := by rw [h]; exact Hp.at_push_eq
theorem Hp.at_put_id {H : Hp} {b : Blk} {i j : Nat} (h : i = j) (hl : j < H.length) : (H.put i b).at j = some b := by rw [h]; exact Hp.at_put_eq hl
theorem Hp.push_put (H : Hp) (b c : Blk) : (H.push b).put H.length c = H.push c := by simp [Hp.push, Hp.put]
/-- A heap behind another one: only the blocks F of it may be otherwise. -/
structure HExt (F : List Nat) (H H' : Hp) : Prop where
  len : H.length ≤ H'.length
  eq : ∀ i, i < H.length → i ∉ F → H'.at i = H.at i
section
variable {F G : List Nat} {H H1 H2 : Hp} {b : Blk} {i : Nat}
theorem HExt.refl (F : List Nat) (H : Hp) : HExt F H H := ⟨Nat.le_refl _, fun _ _ _ => rfl⟩
theorem HExt.push (h : HExt F H H1) : HExt F H (H1.push b) := ⟨by have := h.len; simp; omega, fun i hi hn => (Hp.at_push_lt (by have := h.len; omega)).trans (h.eq i hi hn)⟩
theorem HExt.put (h : HExt F H H1) (hi : i ∈ F ∨ H.length ≤ i) : HExt F H (H1.put i b) := ⟨by simpa using h.len, fun j hj hn => (Hp.at_put_ne (by
  rintro rfl
  rcases hi with hi | hi
  · exact hn hi
  · omega)).trans (h.eq j hj hn)⟩
theorem HExt.kill (h : HExt F H H1) (hi : i ∈ F ∨ H.length ≤ i) : HExt F H (H1.kill i) := ⟨by simpa using h.len, fun j hj hn => (Hp.at_kill_ne (by
  rintro rfl
  rcases hi with hi | hi
  · exact hn hi
  · omega)).trans (h.eq j hj hn)⟩
theorem HExt.tr (h : HExt F H H1) (k : HExt G H1 H2) (hG : ∀ i ∈ G, i ∈ F ∨ H.length ≤ i) : HExt F H H2 := ⟨Nat.le_trans h.len k.len, fun i hi hn => (k.eq i (Nat.lt_of_lt_of_le hi h.len) (fun hm => by
  rcases hG i hm with h1 | h1
  · exact hn h1
  · omega)).trans (h.eq i hi hn)⟩
end
theorem Hp.put_self {H : Hp} {j : Nat} {b : Blk} (h : H.at j = some b) : H.put j b = H := by
  have hlt := Hp.at_lt h
  unfold Hp.put
  apply List.ext_getElem?
  intro k
  by_cases e : j = k
  · subst e
    rw [List.getElem?_set_self hlt]
    unfold Hp.at at h
    cases hk : H[j]? with
    | none => rw [hk] at h; cases h
    | some x =>
      rw [hk] at h
      simp only [Option.getD_some] at h
      rw [h]
  · rw [List.getElem?_set_ne e]
section
variable {P : Program} {μ : Ren} {H : Hp} {w : World}
theorem run_store1 {g o : Nat} {rs : Array Value} {t : TypeId} {fz : Nat × Nat} {v : Value} (h : w.heap[g]? = some (.cells rs t fz)) (hf : FzOk fz rs.size) (ho : o < rs.size) (h1 : v.oneCell' = true) :
    (store ⟨g, o, none⟩ v).run P w = .ok () (w.setCell ⟨g, o, none⟩ v) := by
  have hc := real_load h (Array.getElem?_eq_getElem ho)
  have hz := real_free h hf ho
  cases v <;> first | (simp [store, Sem.run, hc, hz]; done) | cases h1
theorem SimH.sets : ∀ (vs vs' : List Value) (H : Hp) (w : World) (j off : Nat) (b : Blk) (L : Loc), SimH μ H w → H.at j = some b → b.rw = true → off + vs.length ≤ b.cs.length → VRs μ vs vs' → (∀ v ∈ vs, v.oneCell' = true) → μ j = some L →
    ∃ w', (∀ k, (storeCells ⟨L.g, L.d + off - k, none⟩ vs' k).run P w = .ok () w' ∨ L.d + off < k ∨ (k = 0 → False) ∧ False) ∧ SimH μ (H.put j { b with cs := gsets b.cs off vs }) w' ∧ Frm w w' [L.g] ∧ w'.heap.size = w.heap.size := by
  intro vs
  induction vs with
  | nil =>
    intro vs' H w j off b L hs hb hrw hl hv h1 hL
    cases hv
    refine ⟨w, fun k => .inl rfl, ?_, Frm.refl _ _, rfl⟩
    show SimH μ (H.put j b) w
    rw [Hp.put_self hb]
    exact hs
  | cons v vs ih =>
    intro vs' H w j off b L hs hb hrw hl hv h1 hL
    simp only [List.length_cons] at hl
    cases hv with
    | cons hv hvs =>
      rename_i v' vs'
      have hs1 := hs.set hb hrw (o := off) (by omega) hv (h1 v (by simp)) hL
      obtain ⟨M, rs, t, fz, q1, q2, q3, q4, q5, q6, q7⟩ := hs.dom j b hb
      rw [hL] at q1
      injection q1 with q1
      subst q1
      have hlt := Hp.at_lt hb
      have hrs := q6.len (by omega)
      have hst := run_store1 (P := P) q3 (q4 hrw) (o := L.d + off) (v := v') (by omega) (hv.one (h1 v (by simp)))
      obtain ⟨w2, e1, e2, e3, e4⟩ := ih vs' _ _ j (off + 1) { b with cs := b.cs.set off v } L hs1 (Hp.at_put_eq hlt) hrw (by rw [List.length_set]; omega) hvs (fun u hu => h1 u (by simp [hu])) hL
      have hF : Frm w (w.setCell ⟨L.g, L.d + off, none⟩ v') [L.g] := (Frm.refl w [L.g]).put (.inl (by simp)) v'
      refine ⟨w2, fun k => ?_, ?_, hF.trans e3, e4.trans (by simp [World.setCell])⟩
      · rcases Nat.lt_or_ge (L.d + off) k with hk | hk
        · exact .inr (.inl hk)
        · left
          have e5 := e1 (k + 1)
          rw [show L.d + (off + 1) - (k + 1) = L.d + off - k by omega] at e5
          rcases e5 with e5 | e5 | ⟨_, e5⟩
          · have ha : (⟨L.g, L.d + off - k, none⟩ : Addr).add k = ⟨L.g, L.d + off, none⟩ := by
              rw [addr_add]
              congr 1
              omega
            simp only [storeCells, Sem.run_bind, ha, hst, Result.andThen_ok]
            exact e5
          · omega
          · exact e5.elim
      · rw [Hp.put_put] at e2
        exact e2
theorem SimH.store {vs vs' : List Value} {j off : Nat} {b : Blk} {L : Loc} (hs : SimH μ H w) (hb : H.at j = some b) (hrw : b.rw = true) (hl : off + vs.length ≤ b.cs.length) (hv : VRs μ vs vs') (h1 : ∀ v ∈ vs, v.oneCell' = true) (hL : μ j = some L) :
    ∃ w', (storeCells ⟨L.g, L.d + off, none⟩ vs').run P w = .ok () w' ∧ SimH μ (H.put j { b with cs := splice b.cs off vs }) w' ∧ Frm w w' [L.g] ∧ w'.heap.size = w.heap.size := by
  obtain ⟨w', e1, e2, e3, e4⟩ := SimH.sets (P := P) vs vs' H w j off b L hs hb hrw hl hv h1 hL
  rw [gsets_splice _ _ _ hl] at e2
  rcases e1 0 with e1 | e1 | ⟨_, e1⟩
  · exact ⟨w', e1, e2, e3, e4⟩
  · omega
  · exact e1.elim
end
section
variable {P : Program} {T : Tab} {C : Ctx} {o : Oper} {env : Env} {H : Hp} {x y : Operand} {t : TypeId} {i : TyI}
/-- The heap may be put aside for another one. -/
theorem Sim.put {w0 w w' : World} {Fr : List Nat} {μ0 μ : Ren} {H' : Hp} {j : Nat} {L : Loc} (s : Sim C w0 Fr μ0 μ H w) (hL : μ j = some L) (hm : C.may j) (h : SimH μ H' w') (hF : Frm w w' [L.g]) (hl : H'.length = H.length) : Sim C w0 Fr μ0 μ H' w' :=
  ⟨h, s.ext, s.frm.tr hF (fun g hg => by
    rw [List.mem_singleton] at hg
    subst hg
    exact s.may hm hL), s.old, s.new, by rw [hl]; exact s.len, s.back⟩
theorem Sim.push {w0 w w' : World} {Fr : List Nat} {μ0 μ : Ren} {b : Blk} {L : Loc} (s : Sim C w0 Fr μ0 μ H w) (h : SimH (μ.upd H.length L) (H.push b) w') (hF : Frm w0 w' Fr) (hg : L.g ∈ Fr ∨ w0.heap.size ≤ L.g) : Sim C w0 Fr μ0 (μ.upd H.length L) (H.push b) w' := by
  refine ⟨h, s.ext.trans (s.h.fresh L), hF, fun i hi => ⟨(s.old i hi).1, fun M hM => ?_⟩, fun i M hn hM => ?_, by rw [Hp.len_push]; have := s.len; omega, fun i M hi hM => ?_⟩
  · by_cases e : i = H.length
    · subst e
      have := s.len
      have := (s.old _ hi).1
      omega
    · rw [Ren.upd_ne _ _ e] at hM
      exact (s.old i hi).2 M hM
  · by_cases e : i = H.length
    · subst e
      rw [Ren.upd_eq] at hM
      injection hM with hM
      subst hM
      exact hg
    · rw [Ren.upd_ne _ _ e] at hM
      exact s.new i M hn hM
  · have := s.len
    rw [Ren.upd_ne _ _ (by omega)] at hM
    exact s.back i M hi hM
end
end Go.Proofs.Ytcbngjpihcemiaa

/- The ghost walk: operations that write, or make. Over any program. -/
namespace Go.Proofs.Ytcbngjpihcemiaa
open Go.RowKit

theorem plain_one {v : Value} (h : plainB v = true) : v.oneCell' = true := by
  unfold plainB at h
  split at h <;> first | rfl | exact absurd h Bool.false_ne_true
theorem one_agg {l : List Value} (h : l.all (·.oneCell') = true) : ∀ v ∈ l, v.oneCell' = true := by simpa [List.all_eq_true] using h
/-- So many zero values, one behind the other. -/
def gmade (zr : List Value) (c : Nat) : List Value := (List.replicate c zr).flatten
theorem gmade_one (v : Value) (c : Nat) : gmade [v] c = List.replicate c v := by
  unfold gmade
  induction c with
  | zero => rfl
  | succ c ih => rw [List.replicate_succ, List.flatten_cons, ih]; rfl
@[simp] theorem gmade_len (zr : List Value) (c : Nat) : (gmade zr c).length = c * zr.length := by
  unfold gmade
  induction c with
  | zero => simp
  | succ c ih => rw [List.replicate_succ, List.flatten_cons, List.length_append, ih, Nat.add_mul]; omega
theorem gmade_mem {zr : List Value} {c : Nat} {v : Value} (h : v ∈ gmade zr c) : v ∈ zr := by
  unfold gmade at h
  rw [List.mem_flatten] at h
  obtain ⟨l, h1, h2⟩ := h
  rw [List.eq_of_mem_replicate h1] at h2
  exact h2
theorem gmade_get (zr : List Value) : ∀ (c j : Nat), j < c * zr.length → (gmade zr c)[j]? = zr[j % zr.length]? := by
  intro c
  induction c with
  | zero => intro j h; simp at h
  | succ c ih =>
    intro j h
    have e : gmade zr (c + 1) = zr ++ gmade zr c := by simp [gmade, List.replicate_succ]
    rw [e]
    rcases Nat.lt_or_ge j zr.length with h1 | h1
    · rw [List.getElem?_append_left h1, Nat.mod_eq_of_lt h1]
    · rw [List.getElem?_append_right h1, ih _ (by rw [Nat.add_mul] at h; omega), Nat.mod_eq_sub_mod h1]
theorem made_is (z : Value) (zr : List Value) (hz : z.cells.toList = zr) (c : Nat) : (madeCells z.cells (c * zr.length)).toList = gmade zr c := by
  apply List.ext_getElem?
  intro j
  rcases Nat.lt_or_ge j (c * zr.length) with h | h
  · rw [gmade_get zr c j h]
    have hp : 0 < zr.length := by
      rcases Nat.eq_zero_or_pos zr.length with h0 | h0
      · rw [h0] at h; simp at h
      · exact h0
    have hs : z.cells.size = zr.length := by rw [← hz]; simp
    have hlt : j % z.cells.size < z.cells.size := by rw [hs]; exact Nat.mod_lt _ hp
    have e : zr[j % zr.length]? = some (z.cells[j % z.cells.size]'hlt) := by
      rw [← hs, ← hz]
      simp [Array.getElem?_eq_getElem hlt]
    rw [e]
    simp [madeCells, h, getElem!_pos z.cells (j % z.cells.size) hlt]
  · rw [List.getElem?_eq_none (by simpa [madeCells] using h), List.getElem?_eq_none (by rw [gmade_len]; exact h)]
section
variable {P : Program} {T : Tab} {C : Ctx} {o : Oper} {env : Env} {H : Hp} {x y : Operand} {t : TypeId} {i : TyI}
/-- A new block. -/
theorem GOp.new {b : Blk} {v : Value} (h : ∀ μ N a w, SimH μ H w → ER μ N env a → ∃ rs t rv, VRs μ b.cs rs ∧ (execOp a.eval o).run P w = .ok (.value rv) (w.alloc (.cells rs.toArray t)) ∧ VR (μ.upd H.length ⟨w.heap.size, 0, rs.length, b.z⟩) v rv)
    (h1 : ∀ u ∈ b.cs, u.oneCell' = true) : GOp P C o env H (fun u H' => u = v ∧ H' = H.push b) := fun N w0 Fr μ0 μ a w K Q hs he hk => by
  obtain ⟨rs, t, rv, e1, e2, e3⟩ := h μ N a w hs.h he
  unfold Oper.wp
  rw [e2]
  exact hk v rv _ _ _ ⟨rfl, rfl⟩ (hs.push (hs.h.new b rs t e1 h1) (hs.frm.alloc _) (.inr hs.frm.size)) (hs.h.fresh _) e3
theorem gop_alloc {e : TypeId} (hT : T.ok P) (ho : o.op = .alloc e) (ht : T e = some i) (hz : i.zero ≠ []) : GOp P C o env H (fun u H' => u = .pointer (some ⟨H.length, 0, none⟩) ∧ H' = H.push ⟨e, 1, i.zero, true⟩) := by
  obtain ⟨ti, q1, q2, q3, q4⟩ := Tab.size hT ht
  obtain ⟨z, q5, q6, q7⟩ := q4 hz
  refine GOp.new (fun μ N a w hs he => ⟨i.zero, e, _, .plain q7, ?_, .ptr (L := ⟨w.heap.size, 0, i.zero.length, 1⟩) (Ren.upd_eq _ _ _)⟩) (fun u hu => plain_one (q7 u hu))
  have e : z.cells = i.zero.toArray := by rw [← q6]
  simp [execOp, ho, Instr.alloc, zeroValue, typeInfo, q1, q5, newVar, newRow, newObj, Sem.run, e]
theorem gop_box {e : TypeId} {v : Value} (ho : o.op = .box e x) (hx : geval env x = some v) (h1 : v.cells.toList.all (·.oneCell') = true) : GOp P C o env H (fun u H' => u = .pointer (some ⟨H.length, 0, none⟩) ∧ H' = H.push ⟨e, 1, v.cells.toList, true⟩) := by
  refine GOp.new (fun μ N a w hs he => ⟨(a.eval x).cells.toList, e, _, (he.eval hx).cells, ?_, .ptr (L := ⟨w.heap.size, 0, (a.eval x).cells.toList.length, 1⟩) (Ren.upd_eq _ _ _)⟩) (one_agg h1)
  simp [execOp, ho, Instr.box, newVar, newRow, newObj, Sem.run]
theorem gop_make {e z by_ l c : Nat} {zr : List Value} {kl kc : IntKind} (hT : T.ok P) (ho : o.op = .makeSlice t x y) (ht : T t = some i) (hd : i.d = .slice e z by_ zr) (hx : geval env x = some (.int kl (l : Int))) (hy : geval env y = some (.int kc (c : Int))) (hlc : l ≤ c) (hb : by_ * c ≤ 281474976710656) (h63 : c ≤ maxLen) :
    GOp P C o env H (fun u H' => u = .slice (some ⟨H.length, 0, none⟩) l c ∧ H' = H.push ⟨e, z, gmade zr c, true⟩) := by
  obtain ⟨q1, ti, q2, q3, q4, q5, zv, q6, q7, q8⟩ := Tab.slice hT ht hd
  refine GOp.new (fun μ N a w hs he => ⟨gmade zr c, e, _, .plain (fun v hv => q8 v (gmade_mem hv)), ?_, .sl (L := ⟨w.heap.size, 0, (gmade zr c).length, z⟩) (c' := c) (a := ⟨w.heap.size, 0, none⟩) (Ren.upd_eq _ _ _) hlc h63 (fun _ => rfl) (fun h => ?_) (fun _ => rfl)⟩) (fun u hu => plain_one (q8 u (gmade_mem hu)))
  · have hL := (he.eval hx).plain_eq rfl
    have hC := (he.eval hy).plain_eq rfl
    subst q3
    subst q4
    have hb' : (ti.bytes : Int) * (c : Int) ≤ 281474976710656 := by
      have h : ((ti.bytes * c : Nat) : Int) ≤ 281474976710656 := by omega
      rwa [Int.natCast_mul] at h
    have hr := run_make (P := P) w t e ti zv q1 q2 q6 kl kc l c (by omega) (by omega) hb' (by unfold maxLen at h63; omega)
    simp only [Int.toNat_natCast] at hr
    have em : madeCells zv.cells (c * ti.size) = (gmade zr c).toArray := by
      rw [← made_is zv zr q7 c, ← q5]
    rw [em] at hr
    simp [execOp, ho, hL, hC, hr]
  · unfold capU at h
    unfold maxLen at h63
    omega
/-- A store of one cell. -/
theorem gop_store1 {j off : Nat} {b : Blk} {v : Value} (hT : T.ok P) (ho : o.op = .store t x y) (ht : T t = some i) (hsz : i.size = 1) (hx : geval env x = some (.pointer (some ⟨j, off, none⟩))) (hy : geval env y = some v) (h1 : v.oneCell' = true) (hb : H.at j = some b) (hrw : b.rw = true) (hoff : off < b.cs.length) (hm : C.may j) :
    GOp P C o env H (fun u H' => u = undef ∧ H' = H.put j { b with cs := b.cs.set off v }) := fun N w0 Fr μ0 μ a w K Q hs he hk => by
  obtain ⟨L, _, _, _, q1, _⟩ := hs.h.dom j b hb
  have hv := he.eval hy
  have hcs : v.cells = #[v] := by cases v <;> first | rfl | cases h1
  have hcs' : (a.eval y).cells = #[a.eval y] := by
    have := hv.one h1
    generalize a.eval y = r at this
    cases r <;> first | rfl | cases this
  obtain ⟨w', e1, e2, e3, e4⟩ := hs.h.store (P := P) hb hrw (vs := [v]) (vs' := [a.eval y]) (off := off) (by simp; omega) (.cons hv .nil) (by simpa using h1) q1
  have hp := (he.eval hx).addr q1
  obtain ⟨ti, q2, q3, _⟩ := Tab.size hT ht
  have hrun : (execOp a.eval o).run P w = .ok .skip w' := by
    simp [execOp, ho, hp, Instr.storeAt, Instr.sureAddr, storeVar, hcs', run_size q2, q3, hsz, e1]
  have esp : splice b.cs off [v] = b.cs.set off v := by
    rw [← gsets_splice [v] b.cs off (by simp; omega)]
    rfl
  rw [esp] at e2
  unfold Oper.wp
  rw [hrun]
  exact hk undef undef _ w' μ ⟨rfl, rfl⟩ (hs.put q1 hm e2 e3 Hp.len_put) (Ext'.refl μ) (.tuple .nil)
theorem gop_storeN {j off : Nat} {b : Blk} {cs : Array Value} (hT : T.ok P) (ho : o.op = .store t x y) (ht : T t = some i) (hsz : i.size = cs.size) (hx : geval env x = some (.pointer (some ⟨j, off, none⟩))) (hy : geval env y = some (.agg cs)) (h1 : cs.toList.all (·.oneCell') = true) (hb : H.at j = some b) (hrw : b.rw = true) (hoff : off + cs.size ≤ b.cs.length) (hm : C.may j) :
    GOp P C o env H (fun u H' => u = undef ∧ H' = H.put j { b with cs := splice b.cs off cs.toList }) := fun N w0 Fr μ0 μ a w K Q hs he hk => by
  obtain ⟨L, _, _, _, q1, _⟩ := hs.h.dom j b hb
  have hv := he.eval hy
  generalize hr : a.eval y = r at hv
  cases hv with
  | agg hvs =>
    rename_i cs'
    obtain ⟨w', e1, e2, e3, e4⟩ := hs.h.store (P := P) hb hrw (vs := cs.toList) (vs' := cs'.toList) (off := off) (by simpa using hoff) hvs (one_agg h1) q1
    have hp := (he.eval hx).addr q1
    obtain ⟨ti, q2, q3, _⟩ := Tab.size hT ht
    have hsz' : cs'.size = cs.size := by simpa using hvs.length.symm
    have hrun : (execOp a.eval o).run P w = .ok .skip w' := by
      simp [execOp, ho, hp, hr, Instr.storeAt, Instr.sureAddr, storeVar, Value.cells, run_size q2, q3, hsz, hsz', e1]
    unfold Oper.wp
    rw [hrun]
    exact hk undef undef _ w' μ ⟨rfl, rfl⟩ (hs.put q1 hm e2 e3 Hp.len_put) (Ext'.refl μ) (.tuple .nil)
end
end Go.Proofs.Ytcbngjpihcemiaa

/- The ghost walk: append, copy. Over any program. -/
namespace Go.Proofs.Ytcbngjpihcemiaa
open Go.RowKit

section
variable {P : Program} {w : World}
theorem run_storeRow {t : TypeId} {fz : Nat × Nat} : ∀ (vs : List Value) (g o : Nat) (rs : Array Value) (w : World), w.heap[g]? = some (.cells rs t fz) → FzOk fz rs.size → o + vs.length ≤ rs.size → (∀ v ∈ vs, v.oneCell' = true) →
    ∃ w' rs', (∀ k, k ≤ o → (storeCells ⟨g, o - k, none⟩ vs k).run P w = .ok () w') ∧ w'.heap[g]? = some (.cells rs' t fz) ∧ rs'.size = rs.size ∧ (∀ q, q < o ∨ o + vs.length ≤ q → rs'[q]? = rs[q]?) ∧ (∀ (q : Nat) (v : Value), vs[q]? = some v → rs'[o + q]? = some v) ∧ Frm w w' [g] ∧ w'.heap.size = w.heap.size
  | [], g, o, rs, w, h, _, _, _ => ⟨w, rs, fun k _ => rfl, h, rfl, fun _ _ => rfl, fun q v hq => by simp at hq, Frm.refl _ _, rfl⟩
  | v :: vs, g, o, rs, w, h, hf, hl, h1 => by
    simp only [List.length_cons] at hl
    have hst := run_store1 (P := P) h hf (o := o) (v := v) (by omega) (h1 v (by simp))
    obtain ⟨w2, rs2, e1, e2, e3, e4, e5, e6, e7⟩ := run_storeRow vs g (o + 1) _ (w.setCell ⟨g, o, none⟩ v) (real_set h) (by simpa using hf) (by simp; omega) (fun u hu => h1 u (by simp [hu]))
    have hF : Frm w (w.setCell ⟨g, o, none⟩ v) [g] := (Frm.refl w [g]).put (.inl (by simp)) v
    refine ⟨w2, rs2, fun k hk => ?_, e2, by rw [e3]; simp, fun q hq => ?_, fun q u hq => ?_, hF.trans e6, e7.trans (by simp [World.setCell])⟩
    · have ha : (⟨g, o - k, none⟩ : Addr).add k = ⟨g, o, none⟩ := by
        rw [addr_add]
        congr 1
        omega
      have := e1 (k + 1) (by omega)
      rw [show o + 1 - (k + 1) = o - k by omega] at this
      simp only [storeCells, Sem.run_bind, ha, hst, Result.andThen_ok]
      exact this
    · simp only [List.length_cons] at hq
      rw [e4 q (by omega), Array.getElem?_setIfInBounds_ne (by omega)]
    · cases q with
      | zero =>
        simp at hq
        subst hq
        rw [Nat.add_zero, e4 o (by omega), Array.getElem?_setIfInBounds_self_of_lt (by omega)]
      | succ q =>
        have := e5 q u (by simpa using hq)
        rw [show o + (q + 1) = o + 1 + q by omega]
        exact this
/-- What is appended: so many elements, these cells. -/
def AppX (P : Program) (xt : TypeId) (v : Value) (zv : Value) (size m : Nat) (new : Array Value) (w : World) : Prop :=
  ((P.underlying xt = some .string ∨ ∃ e', P.underlying xt = some (.slice e')) ∧ (Builtin.lenOf v).run P w = .ok m w ∧ ∀ w' : World, w'.heap = w.heap → (Builtin.firstCells size m v).run P w' = .ok new w') ∨
  (∃ k kl, P.underlying xt = some (.int k) ∧ v = .int kl (m : Int) ∧ new = Builtin.zeroCells zv.cells m)
theorem run_app_grow {t xt ty e : TypeId} {inf : TypeInfo} {zv : Value} {base : Option Addr} {n c m : Nat} {v : Value} {old new : Array Value} (ht : P.underlying t = some (.slice e)) (hi : P.info? e = some inf) (hz : inf.zero = some zv) (hs0 : 0 < inf.size)
    (hx : AppX P xt v zv inf.size m new w) (hold : ∀ w' : World, w'.heap = w.heap → (Builtin.firstCells inf.size n (.slice base n c)).run P w' = .ok old w') (hc : c < n + m) (hn : n + m ≤ 9223372036854775807) (hb : (n + m) * inf.bytes ≤ 140737488355328) :
    (Builtin.append_ #[t, xt] ty #[.slice base n c, v]).run P w = .ok (.slice (some ⟨w.heap.size, 0, none⟩) (n + m) (grownCap w (n + m) c e)) (w.drew.alloc (.cells (old ++ new ++ Builtin.zeroCells zv.cells (grownCap w (n + m) c e - (n + m))) e)) := by
  have hroom : ¬ (n + m ≤ c) := by omega
  have hn63 : ¬ (9223372036854775807 < (n : Int) + (m : Int)) := by omega
  have h48' := growslice_fits (need := n + m) (old := c) (bytes := inf.bytes) hc hb
  have h48 : ¬ (281474976710656 < Builtin.nextslicecap (n + m) c * inf.bytes) := by omega
  have ho := hold w.drew rfl
  rcases hx with ⟨hd | ⟨e', hd⟩, hlen, hnew⟩ | ⟨k, kl, hd, rfl, rfl⟩
  iterate 2
    · have hn' := hnew w.drew rfl
      simp [Builtin.append_, run_underlying ht, run_underlying hd, sizeOf, typeInfo, zeroValue, hi, hz, hlen, hroom, hn63, h48, Question.forced, ho, hn', newRow, grownCap]
  · have hw : IntKind.i64.wrap (m : Int) = (m : Int) := by rw [IntKind.wrap_i64]; omega
    have hm0 : ¬ (m : Int) < 0 := by omega
    have hmb' : m * inf.bytes ≤ 281474976710656 := Nat.le_trans (Nat.mul_le_mul_right _ (by omega)) (Nat.le_trans hb (by omega))
    have hmb : ¬ (281474976710656 < (m : Int) * (inf.bytes : Int)) := by
      have h : ((m * inf.bytes : Nat) : Int) ≤ 281474976710656 := by omega
      rw [Int.natCast_mul] at h
      omega
    have h00 : Builtin.zeroCells zv.cells 0 = #[] := by simp [Builtin.zeroCells]
    by_cases h0 : m = 0
    · subst h0
      simp [Builtin.append_, run_underlying ht, run_underlying hd, sizeOf, typeInfo, zeroValue, hi, hz, asInt, asIntOf, IntKind.wrap_i64, Question.forced, ho, newRow, grownCap, h00, show ¬ n ≤ c by omega, show ¬ (281474976710656 < Builtin.nextslicecap n c * inf.bytes) by simpa using h48, show ¬ (9223372036854775807 < (n : Int)) by omega]
    · have hmz : m * inf.size ≠ 0 := Nat.mul_ne_zero h0 (by omega)
      simp [Builtin.append_, run_underlying ht, run_underlying hd, sizeOf, typeInfo, zeroValue, hi, hz, asInt, asIntOf, hw, hm0, hmb, hmz, hroom, hn63, h48, Question.forced, ho, newRow, grownCap]
theorem run_app_room {t xt ty e : TypeId} {inf : TypeInfo} {zv : Value} {a : Addr} {n c m : Nat} {v : Value} {new : Array Value} {w' : World} (ht : P.underlying t = some (.slice e)) (hi : P.info? e = some inf) (hz : inf.zero = some zv) (hs0 : 0 < inf.size)
    (hx : AppX P xt v zv inf.size m new w) (hc : n + m ≤ c) (hn : n + m ≤ 9223372036854775807) (hb : (n + m) * inf.bytes ≤ 140737488355328) (hst : (storeCells (a.add (n * inf.size)) new.toList).run P w = .ok () w') :
    (Builtin.append_ #[t, xt] ty #[.slice (some a) n c, v]).run P w = .ok (.slice (some a) (n + m) c) w' := by
  rcases hx with ⟨hd | ⟨e', hd⟩, hlen, hnew⟩ | ⟨k, kl, hd, rfl, rfl⟩
  iterate 2
    · have hn' := hnew w rfl
      simp [Builtin.append_, run_underlying ht, run_underlying hd, sizeOf, typeInfo, zeroValue, hi, hz, hlen, hc, hn', hst]
  · have hw : IntKind.i64.wrap (m : Int) = (m : Int) := by rw [IntKind.wrap_i64]; omega
    have hm0 : ¬ (m : Int) < 0 := by omega
    have hmb' : m * inf.bytes ≤ 281474976710656 := Nat.le_trans (Nat.mul_le_mul_right _ (by omega)) (Nat.le_trans hb (by omega))
    have hmb : ¬ (281474976710656 < (m : Int) * (inf.bytes : Int)) := by
      have h : ((m * inf.bytes : Nat) : Int) ≤ 281474976710656 := by omega
      rw [Int.natCast_mul] at h
      omega
    have h00 : Builtin.zeroCells zv.cells 0 = #[] := by simp [Builtin.zeroCells]
    by_cases h0 : m = 0
    · subst h0
      rw [h00] at hst
      simp at hst
      simp [Builtin.append_, run_underlying ht, run_underlying hd, sizeOf, typeInfo, zeroValue, hi, asInt, asIntOf, IntKind.wrap_i64, hst, show n ≤ c by omega]
    · have hmz : m * inf.size ≠ 0 := Nat.mul_ne_zero h0 (by omega)
      simp [Builtin.append_, run_underlying ht, run_underlying hd, sizeOf, typeInfo, zeroValue, hi, hz, asInt, asIntOf, hw, hm0, hmb, hmz, hc, hst]
end
/-- What stands to be appended, on the ghost side: so many elements of z cells. -/
inductive GSrc (T : Tab) (env : Env) (H : Hp) (x : Operand) (xt : TypeId) (z : Nat) (zr : List Value) : Nat → List Value → Prop
  | slice {k off m c e z' by_ : Nat} {zr' : List Value} {b : Blk} {i : TyI} (ht : T xt = some i) (hd : i.d = .slice e z' by_ zr') (hx : geval env x = some (.slice (some ⟨k, off, none⟩) m c)) (hb : H.at k = some b) (hn : off + m * z ≤ b.cs.length) : GSrc T env H x xt z zr m ((b.cs.drop off).take (m * z))
  | nil {e z' by_ : Nat} {zr' : List Value} {i : TyI} (ht : T xt = some i) (hd : i.d = .slice e z' by_ zr') (hx : geval env x = some (.slice none 0 0)) : GSrc T env H x xt z zr 0 []
  | str {s : ByteArray} {i : TyI} (hz : z = 1) (ht : T xt = some i) (hd : i.d = .str) (hx : geval env x = some (.string s)) : GSrc T env H x xt z zr s.size (vb s.data.toList)
  | zeros {m : Nat} {k kl : IntKind} {i : TyI} (ht : T xt = some i) (hd : i.d = .int k) (hx : geval env x = some (.int kl (m : Int))) : GSrc T env H x xt z zr m (gmade zr m)
section
variable {P : Program} {T : Tab} {C : Ctx} {o : Oper} {env : Env} {H : Hp} {x y : Operand} {t xt : TypeId} {i : TyI}
theorem run_first0 (size : Nat) (v : Value) (hv : v = .slice none 0 0 ∨ (∃ a c, v = .slice (some a) 0 c)) (w : World) : (Builtin.firstCells size 0 v).run P w = .ok #[] w := by
  rcases hv with rfl | ⟨a, c, rfl⟩ <;> simp [Builtin.firstCells, loadCells, loadCellsFrom]
/-- The first cells of a slice, in all worlds of the same heap. -/
theorem real_first {μ : Ren} {w : World} {k off n c z : Nat} {b : Blk} {v' : Value} (hs : SimH μ H w) (hv : VR μ (.slice (some ⟨k, off, none⟩) n c) v') (hb : H.at k = some b) (hn : off + n * z ≤ b.cs.length) :
    ∃ (a : Addr) (c' : Nat) (l' : List Value), v' = .slice (some a) n c' ∧ VRs μ ((b.cs.drop off).take (n * z)) l' ∧ ∀ w' : World, w'.heap = w.heap → (Builtin.firstCells z n (.slice (some a) n c')).run P w' = .ok l'.toArray w' := by
  cases hv with
  | sl hL hn1 hm hc hu ha =>
    rename_i c' a' L
    obtain ⟨M, l', q1, q2, q3, q4⟩ := hs.run hb off (n * z) hn
    rw [hL] at q1
    injection q1 with q1
    subst q1
    refine ⟨a', c', l', rfl, q2, fun w' hw => ?_⟩
    rcases Nat.eq_zero_or_pos n with h0 | h0
    · subst h0
      have : l' = [] := List.eq_nil_of_length_eq_zero (by omega)
      subst this
      exact run_first0 z _ (.inr ⟨a', c', rfl⟩) w'
    · obtain rfl := ha (by omega)
      refine run_firstCells_some (P := P) w' z n ⟨L.g, L.d + off, none⟩ n c' l' q3 fun j v hj => ?_
      rw [addr_add]
      exact (World.cell?_of_block (by rw [hw])).trans (q4 j v hj)
theorem vb_data (s : ByteArray) : (s.extract 0 s.size).data.map (fun b => Value.int .u8 (b.toNat : Int)) = (vb s.data.toList).toArray := by
  apply Array.toList_inj.1
  rw [Array.toList_map, Lib.extract_to_end]
  simp [vb]
theorem GSrc.real {z m : Nat} {zr news : List Value} (hT : T.ok P) {μ : Ren} {N : Nat} {a : Act} {w : World} (hs : SimH μ H w) (he : ER μ N env a) (h : GSrc T env H x xt z zr m news) (zv : Value) (hz : zv.cells.toList = zr) (hp : ∀ u ∈ zr, plainB u = true) :
    ∃ new' : List Value, VRs μ news new' ∧ (∀ u ∈ news, u.oneCell' = true) ∧ AppX P xt (a.eval x) zv z m new'.toArray w := by
  cases h with
  | slice ht hd hx hb hn =>
    rename_i k off c e z' by_ zr' b i
    obtain ⟨a', c', l', e1, e2, e3⟩ := real_first (P := P) hs (he.eval hx) hb hn
    refine ⟨l', e2, fun u hu => hs.one hb u (List.mem_of_mem_drop (List.mem_of_mem_take hu)), .inl ⟨.inr ⟨e, (Tab.slice hT ht hd).1⟩, by rw [e1]; rfl, by rw [e1]; exact e3⟩⟩
  | nil ht hd hx =>
    have e1 := (he.eval hx).plain_eq rfl
    exact ⟨[], .nil, by simp, .inl ⟨.inr ⟨_, (Tab.slice hT ht hd).1⟩, by rw [e1]; rfl, fun w' _ => by rw [e1]; exact run_first0 z _ (.inl rfl) w'⟩⟩
  | str hz1 ht hd hx =>
    rename_i s i
    have e1 := (he.eval hx).plain_eq rfl
    refine ⟨vb s.data.toList, .plain (vb_plain _), vb_one _, .inl ⟨.inl (Tab.str hT ht hd), by rw [e1]; rfl, fun w' _ => ?_⟩⟩
    rw [e1]
    simp only [Builtin.firstCells, Sem.run_pure, vb_data]
  | zeros ht hd hx =>
    rename_i k kl i
    have e1 := (he.eval hx).plain_eq rfl
    refine ⟨gmade zr m, .plain (fun v hv => hp v (gmade_mem hv)), fun u hu => plain_one (hp u (gmade_mem hu)), .inr ⟨k, kl, Tab.int hT ht hd, e1, ?_⟩⟩
    have := made_is zv zr hz m
    apply Array.toList_inj.1
    rw [← this]
    have hs : zv.cells.size = zr.length := by rw [← hz]; simp
    simp [Builtin.zeroCells, madeCells, hs]
/-- The new row of an append that found no room. -/
theorem GOp.grown {b : Blk} {n m c : Nat} {e z by_ : Nat} {zr old news : List Value} (hT : T.ok P) (ho : o.op = .call { callee := .builtin .append, args := #[x, y], argTypes := #[t, xt] }) (ht : T t = some i) (hd : i.d = .slice e z by_ zr) (hz0 : 0 < z)
    (hb : b = ⟨e, z, old ++ news, true⟩) (hsrc : GSrc T env H y xt z zr m news) (hol : old.length = n * z) (hnl : news.length = m * z) (h1 : ∀ u ∈ old, u.oneCell' = true) (hsz : (n + m) * by_ ≤ 140737488355328) (hn : n + m ≤ 140737488355328) (hc : c < n + m) {base : Option Addr} {μ : Ren} {N : Nat} {a : Act} {w : World} (hs : SimH μ H w) (he : ER μ N env a)
    (hx : a.eval x = .slice base n c) {old' : List Value} (hov : VRs μ old old') (hof : ∀ w' : World, w'.heap = w.heap → (Builtin.firstCells z n (.slice base n c)).run P w' = .ok old'.toArray w') :
    ∃ rv w' L, (execOp a.eval o).run P w = .ok (.value rv) w' ∧ SimH (μ.upd H.length L) (H.push b) w' ∧ VR (μ.upd H.length L) (.slice (some ⟨H.length, 0, none⟩) (n + m) capU) rv ∧ L.g = w.heap.size ∧ Below w.heap.size w w' := by
  obtain ⟨q1, ti, q2, q3, q4, q5, zv, q6, q7, q8⟩ := Tab.slice hT ht hd
  obtain ⟨new', e1, e2, e3⟩ := hsrc.real hT hs he zv q7 q8
  subst q3
  subst q4
  have hr := run_app_grow (P := P) (ty := o.type) q1 q2 q6 hz0 e3 hof hc (by omega) hsz
  have hge := grownCap_ge w (n + m) c e
  have hle := grownCap_le_maxLen w (n + m) c e (by unfold maxLen; omega)
  have hol' : old'.length = n * ti.size := by rw [← hov.length]; exact hol
  have hnl' : new'.length = m * ti.size := by rw [← e1.length]; exact hnl
  have hzz : (Builtin.zeroCells zv.cells (grownCap w (n + m) c e - (n + m))).size = (grownCap w (n + m) c e - (n + m)) * ti.size := by
    have : zv.cells.size = ti.size := by rw [q5, ← q7]; simp
    simp [Builtin.zeroCells, this]
  have htot : (old'.toArray ++ new'.toArray ++ Builtin.zeroCells zv.cells (grownCap w (n + m) c e - (n + m))).size = grownCap w (n + m) c e * ti.size := by
    rw [Array.size_append, Array.size_append, hzz, List.size_toArray, List.size_toArray, hol', hnl', ← Nat.add_mul, ← Nat.add_mul]
    congr 1
    omega
  refine ⟨_, w.drew.alloc (.cells (old'.toArray ++ new'.toArray ++ Builtin.zeroCells zv.cells (grownCap w (n + m) c e - (n + m))) e), ⟨w.heap.size, 0, grownCap w (n + m) c e * ti.size, ti.size⟩, ?_, ?_, .sl (c' := grownCap w (n + m) c e) (a := ⟨w.heap.size, 0, none⟩) (Ren.upd_eq _ _ _) hge hle (fun h => by omega) (fun _ => by simp) (fun _ => rfl), rfl, ?_⟩
  · simp only [execOp, ho, resolve, invoke, builtin, Sem.run_bind, Sem.run_pure, Result.andThen_ok, List.map_toArray, List.map_cons, List.map_nil, hx, hr]
  · subst hb
    refine hs.add (by simp) _ _ _ e (0, 0) rfl (heap_alloc_new w.drew _) (.inl rfl) htot (fun j v hv => ?_) (fun u hu => ?_) (fun i c M _ hM => ?_)
    · have hvr := hov.append e1
      obtain ⟨v', h2, h3⟩ := hvr.get j v hv
      refine ⟨v', ?_, h3.mono (hs.fresh _)⟩
      have hj : j < (old' ++ new').length := (List.getElem?_eq_some_iff.1 h2).1
      have e9 : old'.toArray ++ new'.toArray = (old' ++ new').toArray := by simp
      rw [Nat.zero_add, e9, Array.getElem?_append_left (by simpa using hj), List.getElem?_toArray]
      exact h2
    · rcases List.mem_append.1 hu with hu | hu
      · exact h1 u hu
      · exact e2 u hu
    · have := (hs.len i M hM).2
      exact ⟨by simp only; omega, heap_alloc_old w.drew _ this⟩
  · exact below_al (below_drN (Below.refl w.heap.size w) 1) _
/-- Append to nothing. -/
theorem gop_app_nil {m e z by_ : Nat} {zr news : List Value} (hT : T.ok P) (ho : o.op = .call { callee := .builtin .append, args := #[x, y], argTypes := #[t, xt] }) (ht : T t = some i) (hd : i.d = .slice e z by_ zr) (hz0 : 0 < z) (hx : geval env x = some (.slice none 0 0))
    (hsrc : GSrc T env H y xt z zr m news) (hnl : news.length = m * z) (hm : 0 < m) (hsz : m * by_ ≤ 140737488355328) (hn : m ≤ 140737488355328) :
    GOp P C o env H (fun u H' => u = .slice (some ⟨H.length, 0, none⟩) m capU ∧ H' = H.push ⟨e, z, news, true⟩) := fun N w0 Fr μ0 μ a w K Q hs he hk => by
  have e1 := (he.eval hx).plain_eq rfl
  obtain ⟨rv, w', L, f1, f2, f3, f4, f5⟩ := GOp.grown (n := 0) (c := 0) (old := []) (old' := []) hT ho ht hd hz0 rfl hsrc (by simp) hnl (by simp) (by simpa using hsz) (by omega) (by omega) hs.h he e1 .nil (fun w' _ => run_first0 z _ (.inl rfl) w')
  simp only [Nat.zero_add, List.nil_append] at f2 f3
  unfold Oper.wp
  rw [f1]
  exact hk _ rv _ w' _ ⟨rfl, rfl⟩ (hs.push f2 (hs.frm.tr (Frm.of_below f5 []) (by simp)) (.inr (by rw [f4]; exact hs.frm.size))) (hs.h.fresh _) f3
/-- Append to a slice that is known to have no room: a new row. -/
theorem gop_app_full {j off n c m e z by_ : Nat} {b : Blk} {zr news : List Value} (hT : T.ok P) (ho : o.op = .call { callee := .builtin .append, args := #[x, y], argTypes := #[t, xt] }) (ht : T t = some i) (hd : i.d = .slice e z by_ zr) (hz0 : 0 < z) (hx : geval env x = some (.slice (some ⟨j, off, none⟩) n c)) (hc : c < capU) (hcm : c < n + m) (hb : H.at j = some b) (hol : off + n * z ≤ b.cs.length)
    (hsrc : GSrc T env H y xt z zr m news) (hnl : news.length = m * z) (hsz : (n + m) * by_ ≤ 140737488355328) (hn : n + m ≤ 140737488355328) :
    GOp P C o env H (fun u H' => u = .slice (some ⟨H.length, 0, none⟩) (n + m) capU ∧ H' = H.push ⟨e, z, (b.cs.drop off).take (n * z) ++ news, true⟩) := fun N w0 Fr μ0 μ a w K Q hs he hk => by
  have hv := he.eval hx
  obtain ⟨a', c', l', e1, e2, e3⟩ := real_first (P := P) hs.h hv hb hol
  have hcc : c' = c := by
    rw [e1] at hv
    cases hv with
    | sl _ _ _ hcc _ _ => exact hcc hc
  subst hcc
  obtain ⟨rv, w', L, f1, f2, f3, f4, f5⟩ := GOp.grown hT ho ht hd hz0 rfl hsrc (old := (b.cs.drop off).take (n * z)) (by rw [List.length_take, List.length_drop]; omega) hnl (fun u hu => hs.h.one hb u (List.mem_of_mem_drop (List.mem_of_mem_take hu))) hsz hn hcm hs.h he e1 e2 e3
  unfold Oper.wp
  rw [f1]
  exact hk _ rv _ w' _ ⟨rfl, rfl⟩ (hs.push f2 (hs.frm.tr (Frm.of_below f5 []) (by simp)) (.inr (by rw [f4]; exact hs.frm.size))) (hs.h.fresh _) f3
end
end Go.Proofs.Ytcbngjpihcemiaa

/- The ghost walk: append to one's own, copy, bytes of a string, literals. Over any program. -/
namespace Go.Proofs.Ytcbngjpihcemiaa
open Go.RowKit

section
variable {P : Program} {T : Tab} {C : Ctx} {o : Oper} {env : Env} {H : Hp} {x y : Operand} {t xt : TypeId} {i : TyI}
theorem Sim.killed {w0 w : World} {Fr : List Nat} {μ0 μ : Ren} (s : Sim C w0 Fr μ0 μ H w) (j : Nat) : Sim C w0 Fr μ0 μ (H.kill j) w := ⟨s.h.kill j, s.ext, s.frm, s.old, s.new, by rw [Hp.len_kill]; exact s.len, s.back⟩
/-- Append to a slice of one's own, whatever its capacity: the elder slice is gone. -/
theorem gop_app_own {j off n c m e z by_ : Nat} {b : Blk} {zr news : List Value} (hT : T.ok P) (ho : o.op = .call { callee := .builtin .append, args := #[x, y], argTypes := #[t, xt] }) (ht : T t = some i) (hd : i.d = .slice e z by_ zr) (hz0 : 0 < z) (hx : geval env x = some (.slice (some ⟨j, off, none⟩) n c)) (hc : capU ≤ c)
    (hb : H.at j = some b) (hrw : b.rw = true) (hbz : b.z = z) (hm : C.may j) (hol : off + n * z ≤ b.cs.length) (hn0 : 0 < n)
    (hsrc : GSrc T env H y xt z zr m news) (hnl : news.length = m * z) (hsz : (n + m) * by_ ≤ 140737488355328) (hn : n + m ≤ 140737488355328) :
    GOp P C o env H (fun u H' => u = .slice (some ⟨H.length, 0, none⟩) (n + m) capU ∧ H' = (H.kill j).push ⟨e, z, (b.cs.drop off).take (n * z) ++ news, true⟩) := fun N w0 Fr μ0 μ a w K Q hs he hk => by
  have hv := he.eval hx
  obtain ⟨a', c', l', e1, e2, e3⟩ := real_first (P := P) hs.h hv hb hol
  obtain ⟨L, rs, t', fz, d1, d2, d3, d4, d5, d6, d7⟩ := hs.h.dom j b hb
  rw [e1] at hv
  cases hv with
  | sl hL hn1 hmm hcc hu ha =>
    rename_i L2
    rw [d1] at hL
    injection hL with hL
    subst hL
    have hu := hu hc
    have hS := d5 hrw
    have hoL : ((b.cs.drop off).take (n * z)).length = n * z := by rw [List.length_take, List.length_drop]; omega
    have hl' : l'.length = n * z := by rw [← e2.length]; exact hoL
    have ho1 : ∀ u ∈ (b.cs.drop off).take (n * z), u.oneCell' = true := fun u hu => d7 u (List.mem_of_mem_drop (List.mem_of_mem_take hu))
    rcases Nat.lt_or_ge c' (n + m) with hroom | hroom
    · -- no room
      obtain ⟨rv, w', L', f1, f2, f3, f4, f5⟩ := GOp.grown hT ho ht hd hz0 rfl hsrc hoL hnl ho1 hsz hn hroom hs.h he e1 e2 e3
      unfold Oper.wp
      rw [f1]
      have hk2 := f2.kill j
      have hcomm : (H.push ⟨e, z, (b.cs.drop off).take (n * z) ++ news, true⟩).kill j = (H.kill j).push ⟨e, z, (b.cs.drop off).take (n * z) ++ news, true⟩ := by
        have := Hp.at_lt hb
        simp [Hp.push, Hp.kill, this]
      rw [hcomm] at hk2
      have hs2 := (hs.push f2 (hs.frm.tr (Frm.of_below f5 []) (by simp)) (.inr (by rw [f4]; exact hs.frm.size))).killed j
      rw [hcomm] at hs2
      exact hk _ rv _ w' _ ⟨rfl, rfl⟩ hs2 (hs.h.fresh _) f3
    · -- room
      have ha' := ha (by omega)
      subst ha'
      obtain ⟨q1, ti, q2, q3, q4, q5, zv, q6, q7, q8⟩ := Tab.slice hT ht hd
      obtain ⟨new', g1, g2, g3⟩ := hsrc.real hT hs.h he zv q7 q8
      subst q3
      subst q4
      have hnl' : new'.length = m * ti.size := by rw [← g1.length]; exact hnl
      rw [d2, hbz] at hu
      have hmulc : (n + m) * ti.size ≤ c' * ti.size := Nat.mul_le_mul_right _ hroom
      have hmul2 : (n + m) * ti.size = n * ti.size + m * ti.size := Nat.add_mul _ _ _
      obtain ⟨w', rs', s1, s2, s3, s4, s5, s6, s7⟩ := run_storeRow (P := P) new' L.g (L.d + off + n * ti.size) rs w d3 (d4 hrw) (by omega) (g1.one g2)
      have s1 := s1 0 (Nat.zero_le _)
      rw [Nat.sub_zero] at s1
      have hst : (storeCells ((⟨L.g, L.d + off, none⟩ : Addr).add (n * ti.size)) new'.toArray.toList).run P w = .ok () w' := by rw [addr_add]; exact s1
      have hr := run_app_room (P := P) (ty := o.type) q1 q2 q6 hz0 g3 hroom (by omega) hsz hst
      have hrun : (execOp a.eval o).run P w = .ok (.value (.slice (some ⟨L.g, L.d + off, none⟩) (n + m) c')) w' := by
        simp only [execOp, ho, resolve, invoke, builtin, Sem.run_bind, Sem.run_pure, Result.andThen_ok, List.map_toArray, List.map_cons, List.map_nil, e1, hr]
      have hlen : (H.kill j).length = H.length := Hp.len_kill
      have hadd := (hs.h.kill j).add (w' := w') (by omega) ⟨e, ti.size, (b.cs.drop off).take (n * ti.size) ++ news, true⟩ ⟨L.g, L.d + off, L.S, ti.size⟩ rs' t' fz rfl s2 (by rw [s3]; exact d4 hrw) (by rw [s3]; exact hS) (fun q v hq => ?_) (fun u hu => ?_) (fun i c M hi hM => ?_)
      · rw [hlen] at hadd
        unfold Oper.wp
        rw [hrun]
        have hsim : Sim C w0 Fr μ0 (μ.upd H.length ⟨L.g, L.d + off, L.S, ti.size⟩) ((H.kill j).push ⟨e, ti.size, (b.cs.drop off).take (n * ti.size) ++ news, true⟩) w' := by
          have := (hs.killed j).push (L := ⟨L.g, L.d + off, L.S, ti.size⟩) (by rw [hlen]; exact hadd) (hs.frm.tr s6 (fun g hg => by
            rw [List.mem_singleton] at hg
            subst hg
            exact hs.may hm d1)) (show L.g ∈ Fr ∨ w0.heap.size ≤ L.g from hs.may hm d1)
          rw [hlen] at this
          exact this
        exact hk _ _ _ w' _ ⟨rfl, rfl⟩ hsim (hs.h.fresh _) (.sl (Ren.upd_eq _ _ _) hroom hmm (fun h => by omega) (fun _ => by simp only; omega) (fun _ => rfl))
      · -- the cells
        rw [hlen]
        rcases Nat.lt_or_ge q (n * ti.size) with hq1 | hq1
        · rw [List.getElem?_append_left (by omega)] at hq
          rw [List.getElem?_take, if_pos hq1, List.getElem?_drop] at hq
          obtain ⟨v', h5, h6⟩ := d6 (off + q) v hq
          exact ⟨v', by simp only; rw [s4 _ (by omega)]; rw [Nat.add_assoc]; exact h5, h6.mono (hs.h.fresh _)⟩
        · rw [List.getElem?_append_right (by omega), hoL] at hq
          obtain ⟨v', h5, h6⟩ := g1.get _ v hq
          refine ⟨v', ?_, h6.mono (hs.h.fresh _)⟩
          have := s5 _ v' h5
          simp only
          rw [show L.d + off + q = L.d + off + n * ti.size + (q - n * ti.size) by omega]
          exact this
      · rcases List.mem_append.1 hu with hu | hu
        · exact ho1 u hu
        · exact g2 u hu
      · have hne : j ≠ i := by
          rintro rfl
          rw [Hp.at_kill_eq] at hi
          cases hi
        rw [Hp.at_kill_ne hne] at hi
        have hg : M.g ≠ L.g := fun hgg => hne (hs.h.inj j i b c L M hb hi d1 hM hgg.symm (.inl hrw))
        exact ⟨hg, s6.block M.g (hs.h.len i M hM).2 (by simpa using hg)⟩
/-- Append where there is room, as is known: the slice goes on in its block. -/
theorem gop_app_room {j off n c m e z by_ : Nat} {b : Blk} {zr news : List Value} (hT : T.ok P) (ho : o.op = .call { callee := .builtin .append, args := #[x, y], argTypes := #[t, xt] }) (ht : T t = some i) (hd : i.d = .slice e z by_ zr) (hz0 : 0 < z) (hx : geval env x = some (.slice (some ⟨j, off, none⟩) n c)) (hc : c < capU) (hcm : n + m ≤ c) (hc0 : 0 < c)
    (hb : H.at j = some b) (hrw : b.rw = true) (hm : C.may j) (hol : off + c * z ≤ b.cs.length)
    (hsrc : GSrc T env H y xt z zr m news) (hnl : news.length = m * z) (hsz : (n + m) * by_ ≤ 140737488355328) (hn : n + m ≤ 140737488355328) :
    GOp P C o env H (fun u H' => u = .slice (some ⟨j, off, none⟩) (n + m) c ∧ H' = H.put j { b with cs := splice b.cs (off + n * z) news }) := fun N w0 Fr μ0 μ a w K Q hs he hk => by
  have hv := he.eval hx
  obtain ⟨L, rs, t', fz, d1, d2, d3, d4, d5, d6, d7⟩ := hs.h.dom j b hb
  generalize hr : a.eval x = r at hv
  cases hv with
  | sl hL hn1 hmm hcc hu ha =>
    rename_i c' a' L2
    rw [d1] at hL
    injection hL with hL
    subst hL
    obtain rfl := hcc hc
    obtain rfl := ha hc0
    obtain ⟨q1, ti, q2, q3, q4, q5, zv, q6, q7, q8⟩ := Tab.slice hT ht hd
    obtain ⟨new', g1, g2, g3⟩ := hsrc.real hT hs.h he zv q7 q8
    subst q3
    subst q4
    have hmulc : (n + m) * ti.size ≤ c' * ti.size := Nat.mul_le_mul_right _ hcm
    have hmul2 : (n + m) * ti.size = n * ti.size + m * ti.size := Nat.add_mul _ _ _
    obtain ⟨w', e1, e2, e3, e4⟩ := hs.h.store (P := P) hb hrw (off := off + n * ti.size) (by omega) g1 g2 d1
    have hst : (storeCells ((⟨L.g, L.d + off, none⟩ : Addr).add (n * ti.size)) new'.toArray.toList).run P w = .ok () w' := by rw [addr_add, Nat.add_assoc]; exact e1
    have hrn := run_app_room (P := P) (ty := o.type) q1 q2 q6 hz0 g3 hcm (by omega) hsz hst
    have hrun : (execOp a.eval o).run P w = .ok (.value (.slice (some ⟨L.g, L.d + off, none⟩) (n + m) c')) w' := by
      simp only [execOp, ho, resolve, invoke, builtin, Sem.run_bind, Sem.run_pure, Result.andThen_ok, List.map_toArray, List.map_cons, List.map_nil, hr, hrn]
    unfold Oper.wp
    rw [hrun]
    exact hk _ _ _ w' μ ⟨rfl, rfl⟩ (hs.put d1 hm e2 e3 Hp.len_put) (Ext'.refl μ) (.sl d1 hcm hmm (fun _ => rfl) (fun h => by omega) (fun _ => rfl))
/-- The first k elements of a slice. -/
theorem real_firstk {μ : Ren} {w : World} {k off n c z q : Nat} {b : Blk} {v' : Value} (hs : SimH μ H w) (hv : VR μ (.slice (some ⟨k, off, none⟩) n c) v') (hb : H.at k = some b) (hq : q ≤ n) (hn : off + q * z ≤ b.cs.length) :
    ∃ (a : Addr) (c' : Nat) (l' : List Value), v' = .slice (some a) n c' ∧ VRs μ ((b.cs.drop off).take (q * z)) l' ∧ (Builtin.firstCells z q (.slice (some a) n c')).run P w = .ok l'.toArray w := by
  cases hv with
  | sl hL hn1 hm hc hu ha =>
    rename_i c' a' L
    obtain ⟨M, l', q1, q2, q3, q4⟩ := hs.run hb off (q * z) hn
    rw [hL] at q1
    injection q1 with q1
    subst q1
    refine ⟨a', c', l', rfl, q2, ?_⟩
    rcases Nat.eq_zero_or_pos q with h0 | h0
    · subst h0
      have : l' = [] := List.eq_nil_of_length_eq_zero (by omega)
      subst this
      simp [Builtin.firstCells, loadCells, loadCellsFrom]
    · obtain rfl := ha (by omega)
      refine run_firstCells_some (P := P) w z q ⟨L.g, L.d + off, none⟩ n c' l' q3 fun j v hj => ?_
      rw [addr_add]
      exact q4 j v hj
/-- A copy out of a slice, into one. -/
theorem gop_copy {j off n c m e z by_ k2 off2 c2 : Nat} {b b2 : Blk} {zr : List Value} (hT : T.ok P) (ho : o.op = .call { callee := .builtin .copy, args := #[x, y], argTypes := #[t, xt] }) (ht : T t = some i) (hd : i.d = .slice e z by_ zr) (hx : geval env x = some (.slice (some ⟨j, off, none⟩) n c))
    (hb : H.at j = some b) (hrw : b.rw = true) (hm : C.may j) (hol : off + n * z ≤ b.cs.length)
    (hy : geval env y = some (.slice (some ⟨k2, off2, none⟩) m c2)) (hb2 : H.at k2 = some b2) (hl2 : off2 + m * z ≤ b2.cs.length) :
    GOp P C o env H (fun u H' => u = .int .i64 ((min m n : Nat) : Int) ∧ H' = H.put j { b with cs := splice b.cs off ((b2.cs.drop off2).take (min m n * z)) }) := fun N w0 Fr μ0 μ a w K Q hs he hk => by
  have hv := he.eval hx
  have hmin : min m n * z ≤ m * z := Nat.mul_le_mul_right _ (Nat.min_le_left _ _)
  have hmin2 : min m n * z ≤ n * z := Nat.mul_le_mul_right _ (Nat.min_le_right _ _)
  obtain ⟨a2, c2', l', f1, f2, f3⟩ := real_firstk (P := P) (z := z) (q := min m n) hs.h (he.eval hy) hb2 (Nat.min_le_left _ _) (by omega)
  obtain ⟨L, rs, t', fz, d1, d2, d3, d4, d5, d6, d7⟩ := hs.h.dom j b hb
  obtain ⟨q1, ti, q2, q3, q4, q5, zv, q6, q7, q8⟩ := Tab.slice hT ht hd
  subst q3
  generalize hr : a.eval x = r at hv
  cases hv with
  | sl hL hn1 hmm hcc hu ha =>
    rename_i c' a' L2
    rw [d1] at hL
    injection hL with hL
    subst hL
    have hfl : ((b2.cs.drop off2).take (min m n * ti.size)).length = min m n * ti.size := by rw [List.length_take, List.length_drop]; omega
    have hone : ∀ u ∈ (b2.cs.drop off2).take (min m n * ti.size), u.oneCell' = true := fun u hu => hs.h.one hb2 u (List.mem_of_mem_drop (List.mem_of_mem_take hu))
    have key : ∃ w', (storeCells a' l').run P w = .ok () w' ∧ SimH μ (H.put j { b with cs := splice b.cs off ((b2.cs.drop off2).take (min m n * ti.size)) }) w' ∧ Frm w w' [L.g] := by
      rcases Nat.eq_zero_or_pos n with h0 | h0
      · subst h0
        rw [Nat.min_zero, Nat.zero_mul, List.take_zero] at f2 ⊢
        cases f2
        refine ⟨w, rfl, ?_, Frm.refl _ _⟩
        have e : splice b.cs off ([] : List Value) = b.cs := by simp [splice]
        rw [e]
        show SimH μ (H.put j b) w
        rw [Hp.put_self hb]
        exact hs.h
      · obtain rfl := ha (by omega)
        obtain ⟨w', e1, e2, e3, e4⟩ := hs.h.store (P := P) hb hrw (off := off) (by omega) f2 hone d1
        exact ⟨w', e1, e2, e3⟩
    obtain ⟨w', e1, e2, e3⟩ := key
    have hrun : (execOp a.eval o).run P w = .ok (.value (.int .i64 ((min m n : Nat) : Int))) w' := by
      have hmn : m.min n = min m n := rfl
      simp only [execOp, ho, resolve, invoke, builtin, Sem.run_bind, Sem.run_pure, Result.andThen_ok, List.map_toArray, List.map_cons, List.map_nil, hr, f1]
      simp [Builtin.copy_, run_underlying q1, Builtin.lenOf, run_size q2, hmn, f3, e1, goInt]
    unfold Oper.wp
    rw [hrun]
    exact hk _ _ _ w' μ ⟨rfl, rfl⟩ (hs.put d1 hm e2 e3 Hp.len_put) (Ext'.refl μ) (.int _ _)
/-- A copy of nothing. -/
theorem gop_copy0 {j off n c e z by_ : Nat} {zr : List Value} (hT : T.ok P) (ho : o.op = .call { callee := .builtin .copy, args := #[x, y], argTypes := #[t, xt] }) (ht : T t = some i) (hd : i.d = .slice e z by_ zr) (hx : geval env x = some (.slice (some ⟨j, off, none⟩) n c))
    (hy : geval env y = some (.slice none 0 0)) : GOp P C o env H (fun u H' => u = .int .i64 0 ∧ H' = H) := fun N w0 Fr μ0 μ a w K Q hs he hk => by
  have hv := he.eval hx
  have h2 := (he.eval hy).plain_eq rfl
  obtain ⟨q1, ti, q2, q3, q4, q5, zv, q6, q7, q8⟩ := Tab.slice hT ht hd
  generalize hr : a.eval x = r at hv
  cases hv with
  | sl hL hn1 hmm hcc hu ha =>
    have hrun : (execOp a.eval o).run P w = .ok (.value (.int .i64 0)) w := by
      simp only [execOp, ho, resolve, invoke, builtin, Sem.run_bind, Sem.run_pure, Result.andThen_ok, List.map_toArray, List.map_cons, List.map_nil, hr, h2]
      simp [Builtin.copy_, run_underlying q1, Builtin.lenOf, run_size q2, Builtin.firstCells, storeCells, goInt]
    unfold Oper.wp
    rw [hrun]
    exact hk _ _ _ w μ ⟨rfl, rfl⟩ hs (Ext'.refl μ) (.int _ _)
theorem heap_freeze {w : World} {g n : Nat} {C : Array Value} {e : TypeId} (h : w.heap[g]? = some (.cells C e (0, 0))) : (w.freeze ⟨g, n, none⟩ 1).heap[g]? = some (.cells C e (n, n + 1)) := by
  simp [World.freeze, Array.getElem?_modify, h]
theorem heap_freeze_ne {w : World} {g n k : Nat} (h : k ≠ g) : (w.freeze ⟨g, n, none⟩ 1).heap[k]? = w.heap[k]? := by
  simp [World.freeze, Array.getElem?_modify, Ne.symm h]
/-- The bytes of a text. -/
theorem gop_bytes {e z by_ src dst : Nat} {zr : List Value} {s : ByteArray} {i2 i3 : TyI} (hT : T.ok P) (ho : o.op = .convert src dst x) (ht : T src = some i) (hd : i.d = .str) (ht2 : T dst = some i2) (hd2 : i2.d = .slice e z by_ zr) (hte : T e = some i3) (hde : i3.d = .int .u8) (hx : geval env x = some (.string s)) (hsz : s.size ≤ maxLen) :
    GOp P C o env H (fun u H' => u = .slice (some ⟨H.length, 0, none⟩) s.size capU ∧ H' = H.push ⟨e, 1, vb s.data.toList, true⟩) := fun N w0 Fr μ0 μ a w K Q hs he hk => by
  have h1 := (he.eval hx).plain_eq rfl
  have q1 := Tab.str hT ht hd
  have q2 := (Tab.slice hT ht2 hd2).1
  have q3 := Tab.int hT hte hde
  have hge := grownCap_ge w s.size 0 e
  have hle := grownCap_le_maxLen w s.size 0 e hsz
  obtain ⟨D, hD⟩ : ∃ D, D = (s.data.map fun b => Value.int .u8 (b.toNat : Int)) ++ Array.replicate (grownCap w s.size 0 e - s.size) (.int .u8 0) := ⟨_, rfl⟩
  have hss : s.data.size = s.size := rfl
  have hDs : D.size = grownCap w s.size 0 e := by
    rw [hD]
    simp
    omega
  have hrun : (execOp a.eval o).run P w = .ok (.value (.slice (some ⟨w.heap.size, 0, none⟩) s.size (grownCap w s.size 0 e))) ((w.drew.alloc (.cells D e)).freeze ⟨w.heap.size, D.size, none⟩ 1) := by
    have hsh : (w.drew.alloc (.cells D e)).shape? w.heap.size = some (e, D.size) := by
      have : (w.drew.alloc (.cells D e)).heap[w.heap.size]? = some (.cells D e) := heap_alloc_new w.drew _
      unfold World.shape?
      rw [this]
    rw [hD] at hsh ⊢
    simp [execOp, ho, h1, convert, run_underlying q1, run_underlying q2, run_underlying q3, Conv.stringToBytes, newRow, markStringish, grownCap, Question.forced] at hsh ⊢
    simp [Sem.run, hsh, freeze]
  unfold Oper.wp
  rw [hrun]
  have hnew : ((w.drew.alloc (.cells D e)).freeze ⟨w.heap.size, D.size, none⟩ 1).heap[w.heap.size]? = some (.cells D e (D.size, D.size + 1)) := heap_freeze (heap_alloc_new w.drew _)
  have hold : ∀ k, k < w.heap.size → ((w.drew.alloc (.cells D e)).freeze ⟨w.heap.size, D.size, none⟩ 1).heap[k]? = w.heap[k]? := fun k hk => (heap_freeze_ne (by omega)).trans (heap_alloc_old w.drew _ hk)
  have hsize : w.heap.size ≤ ((w.drew.alloc (.cells D e)).freeze ⟨w.heap.size, D.size, none⟩ 1).heap.size := by simp [World.freeze]
  have hbel : Below w.heap.size w ((w.drew.alloc (.cells D e)).freeze ⟨w.heap.size, D.size, none⟩ 1) := ⟨rfl, rfl, rfl, hsize, hold⟩
  have hadd := hs.h.add (w' := (w.drew.alloc (.cells D e)).freeze ⟨w.heap.size, D.size, none⟩ 1) hsize ⟨e, 1, vb s.data.toList, true⟩ ⟨w.heap.size, 0, D.size, 1⟩ D e (D.size, D.size + 1) rfl hnew (.inr (Nat.le_refl _)) rfl (fun j v hj => ?_) (fun u hu => vb_one _ u hu) (fun i c M _ hM => ?_)
  · exact hk _ _ _ _ _ ⟨rfl, rfl⟩ (hs.push hadd (hs.frm.tr (Frm.of_below hbel []) (by simp)) (.inr hs.frm.size)) (hs.h.fresh _) (.sl (L := ⟨w.heap.size, 0, D.size, 1⟩) (Ren.upd_eq _ _ _) hge hle (fun h => by omega) (fun _ => by simp only; omega) (fun _ => rfl))
  · refine ⟨v, ?_, .plain (vb_plain _ v (List.mem_of_getElem? hj))⟩
    have hj2 : j < s.data.size := by
      have := (List.getElem?_eq_some_iff.1 hj).1
      simpa [vb] using this
    rw [hD, Nat.zero_add, Array.getElem?_append_left (by simpa using hj2)]
    rw [← hj]
    simp [vb]
  · have := (hs.h.len i M hM).2
    exact ⟨by simp only; omega, hold _ this⟩
end
end Go.Proofs.Ytcbngjpihcemiaa

/- The ghost walk: literals; calls; functions entered and left. Over any program. -/
namespace Go.Proofs.Ytcbngjpihcemiaa
open Go.RowKit

/-- Parts of a literal, laid into cells. -/
def gfill (place : Nat → Option (Nat × Nat)) : List Value → List (Nat × Value) → Option (List Value)
  | cs, [] => some cs
  | cs, (i, v) :: rest => match place i with
    | none => none
    | some (off, size) => if v.cells.size ≠ size || off + v.cells.size > cs.length then none else gfill place (gsets cs off v.cells.toList) rest
theorem gsets_len : ∀ (vs cs : List Value) (o : Nat), (gsets cs o vs).length = cs.length
  | [], _, _ => rfl
  | v :: vs, cs, o => by rw [gsets, gsets_len vs, List.length_set]
theorem zip_sets (off : Nat) : ∀ (l : List Value) (k : Nat) (A : Array Value), ((l.zipIdx k).foldl (fun (cs : Array Value) (p : Value × Nat) => cs.setIfInBounds (off + p.2) p.1) A).toList = gsets A.toList (off + k) l
  | [], k, A => rfl
  | v :: l, k, A => by
    rw [List.zipIdx_cons, List.foldl_cons, zip_sets off l (k + 1), gsets]
    simp [Nat.add_assoc]
theorem fill_is (place : Nat → Option (Nat × Nat)) : ∀ (ps : List (Nat × Value)) (A : Array Value), Instr.fill place A ps = (gfill place A.toList ps).map List.toArray
  | [], A => by simp [Instr.fill, gfill]
  | (i, v) :: rest, A => by
    unfold Instr.fill gfill
    cases hp : place i with
    | none => rfl
    | some q =>
      obtain ⟨off, size⟩ := q
      simp only [Array.length_toList]
      split
      · rfl
      · rw [fill_is place rest]
        congr 2
        have := zip_sets off v.cells.toList 0 A
        rw [Nat.add_zero] at this
        rw [← this, ← Array.foldl_toList]
        simp
section
variable {μ : Ren}
theorem VRs.gsets {vs vs' : List Value} (k : VRs μ vs vs') : ∀ {cs cs' : List Value} {o : Nat}, VRs μ cs cs' → VRs μ (gsets cs o vs) (gsets cs' o vs') := by
  induction vs generalizing vs' with
  | nil => intro cs cs' o h; cases k; exact h
  | cons v vs ih =>
    intro cs cs' o h
    cases k with
    | cons hv hs => exact ih hs (h.set o hv)
/-- Parts, ghost and real. -/
inductive PRs (μ : Ren) : List (Nat × Value) → List (Nat × Value) → Prop
  | nil : PRs μ [] []
  | cons {i : Nat} {v v' : Value} {l l' : List (Nat × Value)} (h : VR μ v v') (hs : PRs μ l l') : PRs μ ((i, v) :: l) ((i, v') :: l')
theorem gfill_rel {place : Nat → Option (Nat × Nat)} {ps ps' : List (Nat × Value)} (h : PRs μ ps ps') : ∀ {cs cs' out : List Value}, VRs μ cs cs' → gfill place cs ps = some out → ∃ out', gfill place cs' ps' = some out' ∧ VRs μ out out' := by
  induction h with
  | nil =>
    intro cs cs' out hc hf
    simp only [gfill, Option.some.injEq] at hf
    subst hf
    exact ⟨cs', rfl, hc⟩
  | cons hv hs ih =>
    rename_i i v v' l l'
    intro cs cs' out hc hf
    unfold gfill at hf ⊢
    have hsz : v'.cells.size = v.cells.size := by simpa using hv.cells.length.symm
    have hcl := hc.length
    cases hp : place i with
    | none => rw [hp] at hf; cases hf
    | some q =>
      obtain ⟨off, size⟩ := q
      rw [hp] at hf
      simp only at hf ⊢
      rw [hsz, ← hcl]
      split at hf
      · cases hf
      · rename_i hcond
        rw [if_neg hcond]
        exact ih (hv.cells.gsets hc) hf
end
/-- A literal's parts on the ghost side. -/
def gparts (env : Env) : List (Nat × Operand) → Option (List (Nat × Value))
  | [] => some []
  | (i, x) :: l => match geval env x, gparts env l with
    | some v, some vs => some ((i, v) :: vs)
    | _, _ => none
theorem gparts_real {μ : Ren} {N : Nat} {env : Env} {a : Act} (he : ER μ N env a) : ∀ {l : List (Nat × Operand)} {ps : List (Nat × Value)}, gparts env l = some ps → PRs μ ps (l.map fun p => (p.1, a.eval p.2))
  | [], ps, h => by
    simp only [gparts, Option.some.injEq] at h
    subst h
    exact .nil
  | (i, x) :: l, ps, h => by
    unfold gparts at h
    split at h
    · rename_i v vs h1 h2
      injection h with h
      subst h
      exact .cons (he.eval h1) (gparts_real he h2)
    · cases h
section
variable {P : Program} {T : Tab} {C : Ctx} {o : Oper} {env : Env} {H : Hp} {x y : Operand} {t xt : TypeId} {i : TyI}
theorem grd_build {ps : List (Nat × Operand)} {vs : List (Nat × Value)} {fs : List (Nat × TypeId × Nat)} {cs : List Value} (hT : T.ok P) (ho : o.op = .build t ps.toArray) (ht : T t = some i) (hd : i.d = .struct fs) (hz : i.zero ≠ []) (hps : gparts env ps = some vs) (hf : gfill (fun k => (fs[k]?).map fun g => (g.1, g.2.2)) i.zero vs = some cs) : GRd P o env H (.agg cs.toArray) [] :=
  .pure fun μ N a he => by
    have hr := gparts_real he hps
    obtain ⟨ti, q1, q2, q3, q4⟩ := Tab.size hT ht
    obtain ⟨z, q5, q6, q7⟩ := q4 hz
    obtain ⟨gs, g1, g2, g3⟩ := Tab.struct hT ht hd
    obtain ⟨out', e1, e2⟩ := gfill_rel hr (VRs.plain q7) hf
    refine ⟨.agg out'.toArray, .agg (by simpa using e2), fun w => ?_⟩
    have hpl : gs.toList.mapM (fun f => (P.info? f.type).map fun i => (f.offset, i.size)) = some (fs.map fun g => (g.1, g.2.2)) := by
      have key : ∀ (l : List Field) (m : List (Nat × TypeId × Nat)), l.length = m.length → (∀ (j : Nat) (f : Field) (g : Nat × TypeId × Nat), l[j]? = some f → m[j]? = some g → f.offset = g.1 ∧ ∃ x, P.info? f.type = some x ∧ x.size = g.2.2) → l.mapM (fun f => (P.info? f.type).map fun i => (f.offset, i.size)) = some (m.map fun g => (g.1, g.2.2)) := by
        intro l
        induction l with
        | nil => intro m hl _; cases m with
          | nil => rfl
          | cons _ _ => cases hl
        | cons f l ih =>
          intro m hl hk
          cases m with
          | nil => cases hl
          | cons g m =>
            obtain ⟨h1, x, h2, h3⟩ := hk 0 f g rfl rfl
            have := ih m (by simpa using hl) fun j f g hj hg => hk (j + 1) f g (by simpa using hj) (by simpa using hg)
            simp [List.mapM_cons, h2, this, h1, h3]
      refine key gs.toList fs (by simpa using g2) fun j f g hj hg => ?_
      obtain ⟨f', x, k1, k2, k3, k4, k5, k6⟩ := g3 j g.1 g.2.1 g.2.2 hg
      have : f' = f := by
        rw [← Array.getElem?_toList, hj] at k1
        injection k1 with k1
        exact k1.symm
      subst this
      exact ⟨k2, x, by rw [k3]; exact k5, k6⟩
    have hbuilt : P.built t (ps.map fun p => (p.1, a.eval p.2)) = some out'.toArray := by
      unfold Program.built
      rw [q1, g1]
      simp only [q5, hpl]
      rw [fill_is, q6]
      have hpf : (fun x : Nat => (fs.map fun g : Nat × TypeId × Nat => (g.1, g.2.2)).toArray[x]?) = (fun k : Nat => (fs[k]?).map fun g : Nat × TypeId × Nat => (g.1, g.2.2)) := by
        funext k
        simp
      rw [hpf, e1]
      rfl
    have hb := run_build (P := P) w t (ps.toArray.map fun (i, x) => (i, a.eval x)) out'.toArray (by simpa using hbuilt)
    simp only [execOp, ho, Sem.run_bind, hb, Result.andThen_ok, Sem.run_pure]
theorem grd_buildA {ps : List (Nat × Operand)} {vs : List (Nat × Value)} {n e z : Nat} {cs : List Value} (hT : T.ok P) (ho : o.op = .build t ps.toArray) (ht : T t = some i) (hd : i.d = .arr n e z) (hz : i.zero ≠ []) (hps : gparts env ps = some vs) (hf : gfill (fun k => some (k * z, z)) i.zero vs = some cs) : GRd P o env H (.agg cs.toArray) [] :=
  .pure fun μ N a he => by
    have hr := gparts_real he hps
    obtain ⟨ti, q1, q2, q3, q4⟩ := Tab.size hT ht
    obtain ⟨zv, q5, q6, q7⟩ := q4 hz
    obtain ⟨g1, x, g2, g3⟩ := Tab.arr hT ht hd
    obtain ⟨out', e1, e2⟩ := gfill_rel hr (VRs.plain q7) hf
    refine ⟨.agg out'.toArray, .agg (by simpa using e2), fun w => ?_⟩
    have hbuilt : P.built t (ps.map fun p => (p.1, a.eval p.2)) = some out'.toArray := by
      unfold Program.built
      rw [q1, g1]
      simp only [q5, g2]
      rw [fill_is, q6, g3, e1]
      rfl
    have hb := run_build (P := P) w t (ps.toArray.map fun (i, x) => (i, a.eval x)) out'.toArray (by simpa using hbuilt)
    simp only [execOp, ho, Sem.run_bind, hb, Result.andThen_ok, Sem.run_pure]
theorem gop_buildSlice {ps : List (Nat × Operand)} {vs : List (Nat × Value)} {len e z by_ : Nat} {zr cs : List Value} (hT : T.ok P) (ho : o.op = .buildSlice t len ps.toArray) (ht : T t = some i) (hd : i.d = .slice e z by_ zr) (hz : zr ≠ []) (hn : len * z ≤ 16777216) (hps : gparts env ps = some vs) (hf : gfill (fun k => some (k * z, z)) (gmade zr len) vs = some cs) (h1 : cs.all (·.oneCell') = true) :
    GOp P C o env H (fun u H' => u = .slice (some ⟨H.length, 0, none⟩) len len ∧ H' = H.push ⟨e, z, cs, true⟩) := by
  obtain ⟨q1, ti, q2, q3, q4, q5, zv, q6, q7, q8⟩ := Tab.slice hT ht hd
  have hzl : 0 < zr.length := List.length_pos_iff.2 hz
  have hlm : len ≤ 16777216 := by
    have : len * 1 ≤ len * z := Nat.mul_le_mul_left _ (by omega)
    omega
  refine GOp.new (fun μ N a w hs he => ?_) (one_agg h1)
  have hr := gparts_real he hps
  obtain ⟨out', e1, e2⟩ := gfill_rel hr (VRs.plain (fun v hv => q8 v (gmade_mem hv))) hf
  refine ⟨out', e, _, e2, ?_, .sl (L := ⟨w.heap.size, 0, out'.length, z⟩) (c' := len) (a := ⟨w.heap.size, 0, none⟩) (Ren.upd_eq _ _ _) (Nat.le_refl _) (by unfold maxLen; omega) (fun _ => rfl) (fun h => by unfold capU at h; omega) (fun _ => rfl)⟩
  subst q3
  have hfl : Instr.fill (fun i => some (i * ti.size, ti.size)) ((Array.range (len * ti.size)).map ((if len * ti.size = 0 then #[] else zv.cells)[· % (if len * ti.size = 0 then #[] else zv.cells).size]!)) (ps.map fun p => (p.1, a.eval p.2)) = some out'.toArray := by
    rw [fill_is]
    have hm := made_is zv zr q7 len
    rw [← q5] at hm
    have : ((Array.range (len * ti.size)).map ((if len * ti.size = 0 then #[] else zv.cells)[· % (if len * ti.size = 0 then #[] else zv.cells).size]!)).toList = gmade zr len := by
      by_cases h0 : len * ti.size = 0
      · rw [if_pos h0, ← hm, h0]
        simp [madeCells]
      · rw [if_neg h0]
        exact hm
    rw [this, e1]
    rfl
  have hps2 : (ps.toArray.map fun (i, x) => (i, a.eval x)).toList = ps.map fun p => (p.1, a.eval p.2) := by simp
  by_cases h0 : len * ti.size = 0
  · have hr0 : Array.range 0 = #[] := rfl
    simp only [h0, if_true, hr0, List.map_toArray, List.map_nil] at hfl
    simp [execOp, ho, Instr.buildSlice, run_underlying q1, run_size q2, h0, hr0, newRow, hfl]
  · simp only [h0, if_false] at hfl
    simp [execOp, ho, Instr.buildSlice, run_underlying q1, run_size q2, show ¬ (16777216 < len * ti.size) by omega, h0, zeroValue, typeInfo, q2, q6, newRow, hfl]
end
end Go.Proofs.Ytcbngjpihcemiaa

/- The ghost walk: calls; functions entered and left. Over any program. -/
namespace Go.Proofs.Ytcbngjpihcemiaa
open Go.RowKit

/-- The real blocks of some ghost blocks. -/
def img (μ : Ren) (F : List Nat) : List Nat := F.filterMap fun i => (μ i).map (·.g)
theorem mem_img {μ : Ren} {F : List Nat} {i : Nat} {L : Loc} (h : i ∈ F) (hL : μ i = some L) : L.g ∈ img μ F := by
  unfold img
  rw [List.mem_filterMap]
  exact ⟨i, h, by rw [hL]; rfl⟩
theorem img_mem {μ : Ren} {F : List Nat} {g : Nat} (h : g ∈ img μ F) : ∃ i L, i ∈ F ∧ μ i = some L ∧ L.g = g := by
  unfold img at h
  rw [List.mem_filterMap] at h
  obtain ⟨i, h1, h2⟩ := h
  cases hm : μ i with
  | none => rw [hm] at h2; cases h2
  | some L =>
    rw [hm] at h2
    injection h2 with h2
    exact ⟨i, L, h1, hm, h2⟩
/-- A call, on the ghost side: it may write the blocks F; what comes of it. -/
def GCalls (P : Program) (f : FuncId) (args : List Value) (F : List Nat) (H : Hp) (R : Value → Hp → Prop) : Prop :=
  ∀ μ w (rargs : Array Value), SimH μ H w → VRs μ args rargs.toList → Calls P f rargs w fun e w' => ∃ v rv H' μ', e = .returned rv ∧ R v H' ∧ VR μ' v rv ∧ SimH μ' H' w' ∧ Ext' μ μ' ∧ Frm w w' (img μ F) ∧
    (∀ i L, H.length ≤ i → μ' i = some L → L.g ∈ img μ F ∨ w.heap.size ≤ L.g) ∧ H.length ≤ H'.length ∧ ∀ i L, i < H.length → μ' i = some L → μ i = some L
theorem GCalls.mono {P : Program} {f : FuncId} {args : List Value} {F : List Nat} {H : Hp} {R R' : Value → Hp → Prop} (h : GCalls P f args F H R) (hr : ∀ v H', R v H' → R' v H') : GCalls P f args F H R' := fun μ w rargs hs hv =>
  (h μ w rargs hs hv).mono fun _ _ ⟨v, rv, H', μ', q1, q2, q3⟩ => ⟨v, rv, H', μ', q1, hr _ _ q2, q3⟩
/-- The frame at a function's beginning. -/
def envOf : Nat → List Value → Env
  | _, [] => []
  | k, v :: l => (k, v) :: envOf (k + 1) l
theorem envOf_get : ∀ (l : List Value) (k s : Nat) (v : Value), (envOf k l).get s = some v → k ≤ s ∧ l[s - k]? = some v
  | [], _, _, _, h => by simp [envOf, Env.get] at h
  | u :: l, k, s, v, h => by
    by_cases e : k = s
    · subst e
      rw [envOf, Env.get_cons_eq] at h
      injection h with h
      subst h
      exact ⟨Nat.le_refl _, by simp⟩
    · rw [envOf, Env.get_cons_ne _ _ e] at h
      obtain ⟨h1, h2⟩ := envOf_get l (k + 1) s v h
      refine ⟨by omega, ?_⟩
      rw [show s - k = (s - (k + 1)) + 1 by omega]
      simpa using h2
/-- What a function hands back. -/
inductive GRes (env : Env) (H : Hp) (T : Tab) : List ResultVar → Value → Prop
  | none : GRes env H T [] (.tuple #[])
  | one {s : Nat} {v : Value} (h : env.get s = some v) : GRes env H T [.tmp s] v
  | cell1 {s t j off : Nat} {i : TyI} {b : Blk} {v : Value} (h : env.get s = some (.pointer (some ⟨j, off, none⟩))) (ht : T t = some i) (ha : i.agg = false) (hb : H.at j = some b) (hv : b.cs[off]? = some v) : GRes env H T [.cell s t] v
  | cellN {s t j off : Nat} {i : TyI} {b : Blk} (h : env.get s = some (.pointer (some ⟨j, off, none⟩))) (ht : T t = some i) (ha : i.agg = true) (hb : H.at j = some b) (hn : off + i.size ≤ b.cs.length) : GRes env H T [.cell s t] (.agg ((b.cs.drop off).take i.size).toArray)
  | two {x y : ResultVar} {u v : Value} (h1 : GRes env H T [x] u) (h2 : GRes env H T [y] v) : GRes env H T [x, y] (.tuple #[u, v])
  | three {x y z : ResultVar} {u v r : Value} (h1 : GRes env H T [x] u) (h2 : GRes env H T [y] v) (h3 : GRes env H T [z] r) : GRes env H T [x, y, z] (.tuple #[u, v, r])
section
variable {P : Program} {T : Tab} {env : Env} {H : Hp}
def resOf (tmps : Array Value) : ResultVar → Sem Value
  | .tmp t => pure (tmps.getD t undef)
  | .cell s t => do loadVar t (← asAddr (tmps.getD s undef))
theorem results_is (fn : Func) (tmps : Array Value) : results fn tmps = (do
    let vs ← fn.results.mapM (resOf tmps)
    pure (if h : vs.size = 1 then vs[0] else .tuple vs)) := by
  unfold results
  congr 1
theorem run_res1 (hT : T.ok P) {μ : Ren} {N : Nat} {a : Act} {w : World} (he : ER μ N env a) (hs : SimH μ H w) {x : ResultVar} {v : Value} (h : GRes env H T [x] v) : ∃ rv, VR μ v rv ∧ (resOf a.tmps x).run P w = .ok rv w := by
  unfold resOf
  cases h with
  | one h =>
    obtain ⟨rv, h1, h2⟩ := he.val _ _ h
    exact ⟨rv, h2, by simp [Array.getD_eq_getD_getElem?, h1]⟩
  | cell1 h ht ha hb hv =>
    rename_i s t j off i b
    obtain ⟨p, h1, h2⟩ := he.val _ _ h
    obtain ⟨L, v', h3, h4, h5⟩ := hs.cell hb hv
    obtain rfl := h2.addr h3
    exact ⟨v', h5, by simp [Array.getD_eq_getD_getElem?, h1, asAddr, loadVar, run_isAgg_no hT ht ha, load, Sem.run, h4]⟩
  | cellN h ht ha hb hn =>
    rename_i s t j off i b
    obtain ⟨p, h1, h2⟩ := he.val _ _ h
    obtain ⟨L, l', h3, h4, h5, h6⟩ := hs.run hb off i.size hn
    obtain rfl := h2.addr h3
    have hl := run_loadCells_list (P := P) w ⟨L.g, L.d + off, none⟩ l' (fun k v' hv => by rw [addr_add]; exact h6 k v' hv)
    rw [h5] at hl
    obtain ⟨ti, q1, q2, _⟩ := Tab.size hT ht
    exact ⟨.agg l'.toArray, .agg (by simpa using h4), by simp [Array.getD_eq_getD_getElem?, h1, asAddr, loadVar, run_isAgg_yes hT ht ha, run_size q1, q2, hl]⟩
theorem run_res (hT : T.ok P) {μ : Ren} {N : Nat} {a : Act} {w : World} (he : ER μ N env a) (hs : SimH μ H w) {fn : Func} {l : List ResultVar} (hl : fn.results = l.toArray) {v : Value} (h : GRes env H T l v) : ∃ rv, VR μ v rv ∧ (results fn a.tmps).run P w = .ok rv w := by
  have one : ∀ {x : ResultVar} {u : Value}, l = [x] → GRes env H T [x] u → ∃ rv, VR μ u rv ∧ (results fn a.tmps).run P w = .ok rv w := fun {x u} e h => by
    obtain ⟨rv, h1, h2⟩ := run_res1 hT he hs h
    refine ⟨rv, h1, ?_⟩
    rw [results_is, hl, e]
    simp [h2]
  cases h with
  | none => exact ⟨_, .tuple .nil, by simp [results, hl]⟩
  | one h => exact one rfl (.one h)
  | cell1 h ht ha hb hv => exact one rfl (.cell1 h ht ha hb hv)
  | cellN h ht ha hb hn => exact one rfl (.cellN h ht ha hb hn)
  | two h1 h2 =>
    rename_i x y u v
    obtain ⟨r1, e1, e2⟩ := run_res1 hT he hs h1
    obtain ⟨r2, e3, e4⟩ := run_res1 hT he hs h2
    refine ⟨.tuple #[r1, r2], .tuple (.cons e1 (.cons e3 .nil)), ?_⟩
    rw [results_is, hl]
    simp [e2, e4]
  | three h1 h2 h3 =>
    rename_i x y z u v r
    obtain ⟨r1, e1, e2⟩ := run_res1 hT he hs h1
    obtain ⟨r2, e3, e4⟩ := run_res1 hT he hs h2
    obtain ⟨r3, e5, e6⟩ := run_res1 hT he hs h3
    refine ⟨.tuple #[r1, r2, r3], .tuple (.cons e1 (.cons e3 (.cons e5 .nil))), ?_⟩
    rw [results_is, hl]
    simp [e2, e4, e6]
/-- A function's end. -/
def gend (T : Tab) (l : List ResultVar) (R : Value → Hp → Prop) : Exit → Env → Hp → Prop
  | .normal, env, H => ∃ v, GRes env H T l v ∧ R v H
  | .ret, env, H => ∃ v, GRes env H T l v ∧ R v H
  | _, _, _ => False
theorem GCalls.body {f : FuncId} {fn : Func} {c : Code} {args : List Value} {F : List Nat} {R : Value → Hp → Prop} (hT : T.ok P) (hf : P.funcs[f]? = some fn) (hb : fn.body = some c) {l : List ResultVar} (hl : fn.results = l.toArray) {N : Nat} (hN : fn.ntmps = N) (hna : args.length ≤ N) (hF : ∀ i ∈ F, i < H.length)
    (h : GWP P N ⟨F, H.length⟩ c (gend T l R) (envOf 0 args) H) : GCalls P f args F H R := fun μ w rargs hs hv => by
  have hlen : rargs.size = args.length := by simpa using hv.length.symm
  have hsim : Sim ⟨F, H.length⟩ w (img μ F) μ μ H w := by
    refine ⟨hs, Ext'.refl μ, Frm.refl _ _, fun i hi => ⟨hF i hi, fun L hL => mem_img hi hL⟩, fun i L hi hL => ?_, Nat.le_refl _, fun _ _ _ h => h⟩
    have := (hs.len i L hL).1
    simp only at hi
    omega
  have hER : ER μ N (envOf 0 args) ⟨rargs ++ Array.replicate (fn.ntmps - rargs.size) undef, []⟩ := by
    refine ⟨by simp; omega, rfl, fun s v hs' => ?_⟩
    obtain ⟨_, h2⟩ := envOf_get args 0 s v hs'
    obtain ⟨v', h3, h4⟩ := hv.get _ v h2
    rw [Nat.sub_zero] at h3
    refine ⟨v', ?_, h4⟩
    have hlt : s < rargs.size := by
      have := (List.getElem?_eq_some_iff.1 h3).1
      simpa using this
    rw [Array.getElem?_append_left hlt]
    simpa using h3
  refine calls_of_wp hf hb (wp_mono (h w (img μ F) μ μ _ w hsim hER) ?_)
  rintro e a' w' ⟨μ', env', H', q1, q2, q3⟩
  have fin : (∃ v, GRes env' H' T l v ∧ R v H') → a'.defers = [] ∧ ∃ v, (results fn a'.tmps).run P w' = .ok v w' ∧ ∃ v2 rv H'2 μ', (Ending.returned v) = .returned rv ∧ R v2 H'2 ∧ VR μ' v2 rv ∧ SimH μ' H'2 w' ∧ Ext' μ μ' ∧ Frm w w' (img μ F) ∧ (∀ i L, H.length ≤ i → μ' i = some L → L.g ∈ img μ F ∨ w.heap.size ≤ L.g) ∧ H.length ≤ H'2.length ∧ ∀ i L, i < H.length → μ' i = some L → μ i = some L := by
    rintro ⟨v, h1, h2⟩
    obtain ⟨rv, h3, h4⟩ := run_res hT q2 q1.h hl h1
    exact ⟨q2.defers, rv, h4, v, rv, H', μ', rfl, h2, h3, q1.h, q1.ext, q1.frm, fun i L hi hL => q1.new i L hi hL, q1.len, q1.back⟩
  cases e with
  | normal => exact fin q3
  | ret => exact fin q3
  | _ => exact q3.elim
/-- Operands of a call. -/
def gargs (env : Env) : List Operand → Option (List Value)
  | [] => some []
  | x :: l => match geval env x, gargs env l with
    | some v, some vs => some (v :: vs)
    | _, _ => none
theorem gargs_real {μ : Ren} {N : Nat} {a : Act} (he : ER μ N env a) : ∀ {l : List Operand} {vs : List Value}, gargs env l = some vs → VRs μ vs (l.map a.eval)
  | [], vs, h => by
    simp only [gargs, Option.some.injEq] at h
    subst h
    exact .nil
  | x :: l, vs, h => by
    unfold gargs at h
    split at h
    · rename_i v vs' h1 h2
      injection h with h
      subst h
      exact .cons (he.eval h1) (gargs_real he h2)
    · cases h
/-- Behind a call: the walk's relation again. -/
theorem Sim.called {C : Ctx} {w0 w w' : World} {Fr F : List Nat} {μ0 μ μ' : Ren} {H' : Hp} (s : Sim C w0 Fr μ0 μ H w) (hm : ∀ i ∈ F, C.may i) (h : SimH μ' H' w') (he : Ext' μ μ') (hF : Frm w w' (img μ F)) (hn : ∀ i L, H.length ≤ i → μ' i = some L → L.g ∈ img μ F ∨ w.heap.size ≤ L.g) (hl : H.length ≤ H'.length) (hr : ∀ i L, i < H.length → μ' i = some L → μ i = some L) : Sim C w0 Fr μ0 μ' H' w' := by
  have key : ∀ g ∈ img μ F, g ∈ Fr ∨ w0.heap.size ≤ g := fun g hg => by
    obtain ⟨i, L, h1, h2, rfl⟩ := img_mem hg
    exact s.may (hm i h1) h2
  refine ⟨h, s.ext.trans he, s.frm.tr hF key, fun i hi => ⟨(s.old i hi).1, fun L hL => (s.old i hi).2 L (hr i L (by have := (s.old i hi).1; have := s.len; omega) hL)⟩, fun i L hi hL => ?_, by have := s.len; omega, fun i L hi hL => s.back i L hi (hr i L (by have := s.len; omega) hL)⟩
  rcases Nat.lt_or_ge i H.length with h1 | h1
  · exact s.new i L hi (hr i L h1 hL)
  · rcases hn i L h1 hL with h2 | h2
    · exact key _ h2
    · exact .inr (Nat.le_trans s.frm.size h2)
end
end Go.Proofs.Ytcbngjpihcemiaa

/- The ghost walk: a call met; contracts of the elder kind lifted. Over any program. -/
namespace Go.Proofs.Ytcbngjpihcemiaa
open Go.RowKit

section
variable {P : Program} {T : Tab} {C : Ctx} {o : Oper} {env : Env} {H : Hp}
theorem gop_call {f : FuncId} {xs : List Operand} {ts : Array TypeId} {vs : List Value} {F : List Nat} {R : Value → Hp → Prop} (ho : o.op = .call { callee := .value (.func f), args := xs.toArray, argTypes := ts }) (hc : ∀ (args : Array Value) (w : World), (callFunc f args).run P w = .ok (.enter f args) w) (hx : gargs env xs = some vs) (hm : ∀ i ∈ F, C.may i) (h : GCalls P f vs F H R) : GOp P C o env H R := fun N w0 Fr μ0 μ a w K Q hs he hk => by
  have hr := gargs_real he hx
  have hrun : (execOp a.eval o).run P w = .ok (.enter f (xs.map a.eval).toArray) w := by
    simp [execOp, ho, resolve, Deferred.ofValue, Act.eval, invoke, hc]
  unfold Oper.wp
  rw [hrun]
  show Calls P f _ w _
  refine (h μ w (xs.map a.eval).toArray hs.h (by simpa using hr)).mono ?_
  rintro e w' ⟨v, rv, H', μ', rfl, q2, q3, q4, q5, q6, q7, q8, q9⟩
  exact hk v rv H' w' μ' q2 (hs.called hm q4 q5 q6 q7 q8 q9) q5 q3
section
variable {x y : Operand} {t xt : TypeId} {i : TyI}
/-- Appends, the row behind under a name. -/
theorem gop_full {j off n c m e z by_ id : Nat} {b : Blk} {zr news : List Value} (cs : List Value) (hid : H.length = id) (hT : T.ok P) (ho : o.op = .call { callee := .builtin .append, args := #[x, y], argTypes := #[t, xt] }) (ht : T t = some i) (hd : i.d = .slice e z by_ zr) (hz0 : 0 < z) (hx : geval env x = some (.slice (some ⟨j, off, none⟩) n c)) (hc : c < capU) (hcm : c < n + m) (hb : H.at j = some b) (hol : off + n * z ≤ b.cs.length)
    (hsrc : GSrc T env H y xt z zr m news) (hnl : news.length = m * z) (hcs : (b.cs.drop off).take (n * z) ++ news = cs) (hsz : (n + m) * by_ ≤ 140737488355328) (hn : n + m ≤ 140737488355328) :
    GOp P C o env H (fun u H' => u = .slice (some ⟨id, 0, none⟩) (n + m) capU ∧ H' = H.push ⟨e, z, cs, true⟩) := by
  subst hcs hid
  exact gop_app_full hT ho ht hd hz0 hx hc hcm hb hol hsrc hnl hsz hn
theorem gop_own {j off n c m e z by_ id : Nat} {b : Blk} {zr news : List Value} (cs : List Value) (hid : H.length = id) (hT : T.ok P) (ho : o.op = .call { callee := .builtin .append, args := #[x, y], argTypes := #[t, xt] }) (ht : T t = some i) (hd : i.d = .slice e z by_ zr) (hz0 : 0 < z) (hx : geval env x = some (.slice (some ⟨j, off, none⟩) n c)) (hc : capU ≤ c)
    (hb : H.at j = some b) (hrw : b.rw = true) (hbz : b.z = z) (hm : C.may j) (hol : off + n * z ≤ b.cs.length) (hn0 : 0 < n)
    (hsrc : GSrc T env H y xt z zr m news) (hnl : news.length = m * z) (hcs : (b.cs.drop off).take (n * z) ++ news = cs) (hsz : (n + m) * by_ ≤ 140737488355328) (hn : n + m ≤ 140737488355328) :
    GOp P C o env H (fun u H' => u = .slice (some ⟨id, 0, none⟩) (n + m) capU ∧ H' = (H.kill j).push ⟨e, z, cs, true⟩) := by
  subst hcs hid
  exact gop_app_own hT ho ht hd hz0 hx hc hb hrw hbz hm hol hn0 hsrc hnl hsz hn
theorem gop_nil {m e z by_ id : Nat} {zr news : List Value} (cs : List Value) (hid : H.length = id) (hT : T.ok P) (ho : o.op = .call { callee := .builtin .append, args := #[x, y], argTypes := #[t, xt] }) (ht : T t = some i) (hd : i.d = .slice e z by_ zr) (hz0 : 0 < z) (hx : geval env x = some (.slice none 0 0))
    (hsrc : GSrc T env H y xt z zr m news) (hnl : news.length = m * z) (hcs : news = cs) (hm : 0 < m) (hsz : m * by_ ≤ 140737488355328) (hn : m ≤ 140737488355328) :
    GOp P C o env H (fun u H' => u = .slice (some ⟨id, 0, none⟩) m capU ∧ H' = H.push ⟨e, z, cs, true⟩) := by
  subst hcs hid
  exact gop_app_nil hT ho ht hd hz0 hx hsrc hnl hm hsz hn
theorem gop_alloc' {e id : Nat} (hid : H.length = id) (hT : T.ok P) (ho : o.op = .alloc e) (ht : T e = some i) (hz : i.zero ≠ []) : GOp P C o env H (fun u H' => u = .pointer (some ⟨id, 0, none⟩) ∧ H' = H.push ⟨e, 1, i.zero, true⟩) := by
  subst hid
  exact gop_alloc hT ho ht hz
theorem gop_box' {e id : Nat} {v : Value} (hid : H.length = id) (ho : o.op = .box e x) (hx : geval env x = some v) (h1 : v.cells.toList.all (·.oneCell') = true) : GOp P C o env H (fun u H' => u = .pointer (some ⟨id, 0, none⟩) ∧ H' = H.push ⟨e, 1, v.cells.toList, true⟩) := by
  subst hid
  exact gop_box ho hx h1
theorem gop_lit {ps : List (Nat × Operand)} {vs : List (Nat × Value)} {len e z by_ id : Nat} {zr cs : List Value} (hid : H.length = id) (hT : T.ok P) (ho : o.op = .buildSlice t len ps.toArray) (ht : T t = some i) (hd : i.d = .slice e z by_ zr) (hz : zr ≠ []) (hn : len * z ≤ 16777216) (hps : gparts env ps = some vs) (hf : gfill (fun k => some (k * z, z)) (gmade zr len) vs = some cs) (h1 : cs.all (·.oneCell') = true) :
    GOp P C o env H (fun u H' => u = .slice (some ⟨id, 0, none⟩) len len ∧ H' = H.push ⟨e, z, cs, true⟩) := by
  subst hid
  exact gop_buildSlice hT ho ht hd hz hn hps hf h1
theorem gop_make' {e z by_ l c id : Nat} {zr : List Value} {kl kc : IntKind} (hid : H.length = id) (hT : T.ok P) (ho : o.op = .makeSlice t x y) (ht : T t = some i) (hd : i.d = .slice e z by_ zr) (hx : geval env x = some (.int kl (l : Int))) (hy : geval env y = some (.int kc (c : Int))) (hlc : l ≤ c) (hb : by_ * c ≤ 281474976710656) (h63 : c ≤ maxLen) :
    GOp P C o env H (fun u H' => u = .slice (some ⟨id, 0, none⟩) l c ∧ H' = H.push ⟨e, z, gmade zr c, true⟩) := by
  subst hid
  exact gop_make hT ho ht hd hx hy hlc hb h63
end
/-- A contract of the elder kind, of a call that leaves all that was as it is, and hands back what bears no address of its own. -/
theorem GCalls.of {f : FuncId} {args : List Value} {R : Value → Prop} (h : ∀ μ w (rargs : Array Value), SimH μ H w → VRs μ args rargs.toList → Calls P f rargs w fun e w' => ∃ v rv, e = .returned rv ∧ R v ∧ VR μ v rv ∧ Below w.heap.size w w') : GCalls P f args [] H (fun v H' => R v ∧ H' = H) := fun μ w rargs hs hv =>
  (h μ w rargs hs hv).mono fun _ _ ⟨v, rv, q1, q2, q3, q4⟩ => ⟨v, rv, H, μ, q1, ⟨q2, rfl⟩, q3, hs.below q4, Ext'.refl μ, Frm.of_below q4 _, fun i L hi hL => by have := (hs.len i L hL).1; omega, Nat.le_refl _, fun _ _ _ h => h⟩
end
theorem wrap_i64_in {n : Int} (h : -9223372036854775808 ≤ n ∧ n ≤ 9223372036854775807) : IntKind.i64.wrap n = n := IntWalk.i64_in _ h
theorem wrap_u64_in {n : Int} (h : 0 ≤ n ∧ n < 18446744073709551616) : IntKind.u64.wrap n = n := by rw [IntKind.wrap_u64]; exact Int.emod_eq_of_lt h.1 h.2
theorem wrap_u8_in {n : Int} (h : 0 ≤ n ∧ n < 256) : IntKind.u8.wrap n = n := by rw [IntKind.wrap_u8]; exact Int.emod_eq_of_lt h.1 h.2
end Go.Proofs.Ytcbngjpihcemiaa

/- A region that draws its order, walked once: what only reads is walked under a class of worlds; what writes comes up alone. Over any program. -/
namespace Go.Proofs.Ytcbngjpihcemiaa

section
variable {P : Program} {ops : Array Oper} {Q : Exit → Act → World → Prop} {md : Region.Mode}

/-- It yields a value, if anything. -/
def isRead (o : Oper) : Bool :=
  match o.op with
  | .move _ | .assign _ | .pick _ _ _ | .load _ _ | .binOp _ _ _ _ _ | .unOp _ _ _ | .convert _ _ _ | .slice _ _ _ _ _ | .fieldAddr _ _ _ | .field _ _ _ | .indexAddr _ _ _ | .index _ _ _ | .extract _ _ | .nilCheck _ | .build _ _ | .makeInterface _ _ => true
  | .call c => match c.callee with
    | .builtin b => match b with
      | .len | .cap | .max | .min => true
      | _ => false
    | _ => false
  | _ => false

theorem then_any {α : Type} {r : Result α} {k : α → World → Result Next} {w' : World} {n : Next} (h : r.andThen k = .ok n w') : ∃ a w1, k a w1 = .ok n w' := by
  cases r with
  | ok v w1 => exact ⟨v, w1, h⟩
  | halt x w1 => simp [Result.andThen] at h
theorem then_value {α : Type} {f : α → Value} {r : Result α} {w' : World} {n : Next} (h : (r.andThen fun a w' => Result.ok (Next.value (f a)) w') = .ok n w') : ∃ u, n = .value u := by
  obtain ⟨a, w1, h1⟩ := then_any h
  simp only [Result.ok.injEq] at h1
  exact ⟨_, h1.1.symm⟩

theorem isRead_value {o : Oper} {ρ : Operand → Value} {w w' : World} {n : Next} (h : isRead o = true) (hr : (execOp ρ o).run P w = .ok n w') : ∃ u, n = .value u := by
  unfold isRead at h
  unfold execOp at hr
  split at h
  all_goals first
    | cases h
    | skip
  all_goals rename_i heq
  all_goals simp only [heq] at hr
  case h_14 =>
    split at hr
    case h_4 =>
      split at hr
      · simp [runtimePanic] at hr
      · simp only [Sem.run_bind] at hr
        obtain ⟨_, _, h1⟩ := then_any hr
        obtain ⟨_, _, h2⟩ := then_any h1
        split at h2
        · simp only [Sem.run_bind] at h2
          obtain ⟨_, _, h3⟩ := then_any h2
          simp at h3
          exact ⟨_, h3.1.symm⟩
        · simp at h2
          exact ⟨_, h2.1.symm⟩
      · exact ⟨_, (by simp at hr; exact hr.1.symm)⟩
    case h_5 => exact ⟨_, (by simp at hr; exact hr.1.symm)⟩
    all_goals simp [runtimePanic] at hr
  case h_17 =>
    split at h
    · rename_i hc
      split at h
      all_goals first
        | cases h
        | skip
      all_goals
        simp only [resolve, hc, Sem.run_bind, Sem.run_pure, Result.andThen_ok, invoke, builtin] at hr
        exact then_value (f := id) hr
    · cases h
  case h_1 => exact ⟨_, (by simp at hr; exact hr.1.symm)⟩
  case h_2 => exact ⟨_, (by simp at hr; exact hr.1.symm)⟩
  case h_5 =>
    simp only [Sem.run_bind, Sem.run_pure] at hr
    obtain ⟨_, _, h2⟩ := then_any hr
    exact ⟨_, (by simp only [Result.ok.injEq] at h2; exact h2.1.symm)⟩
  case h_3 =>
    simp only [Sem.run_bind, Sem.run_pure] at hr
    obtain ⟨_, _, h2⟩ := then_any hr
    exact ⟨_, (by simp only [Result.ok.injEq] at h2; exact h2.1.symm)⟩
  all_goals
    (simp only [Sem.run_bind, Sem.run_pure] at hr; exact then_value (f := id) hr)

/-- One value in every world of the class. -/
theorem yieldsIf_of_quiet {C : World → Prop} {o : Oper} {a : Act} {v : Value} (hc : isRead o = true) (hw : Region.wanted o (yielded ops a.tmps) = true) (h : ∀ w, C w → o.quietAt P a C w v) : YieldsIf P ops C o v a := by
  refine .inl ⟨hw, fun w hC => ?_⟩
  have h1 := h w hC
  unfold Oper.quietAt at h1
  generalize hr : (execOp a.eval o).run P w = r at h1
  cases r with
  | ok n w' =>
    obtain ⟨u, rfl⟩ := isRead_value hc hr
    simp only [Oper.quietUpon] at h1
    rw [h1.1, h1.2]
  | halt x w' => simp only [Oper.quietUpon] at h1

/-- A piece of a walk: what reads, by number; one that writes. -/
inductive Seg where
  | reads (l : List Nat)
  | write (i : Nat)

/-- The walk, over a class of worlds. -/
def wpSegs (P : Program) (ops : Array Oper) (Q : Exit → Act → World → Prop) : List Seg → (World → Prop) → Act → Prop
  | [], C, a => ∀ w, C w → Q .normal a w
  | .reads l :: rest, C, a => wpQuiet P ops C (fun a' => wpSegs P ops Q rest C a') (l.filterMap (ops[·]?)) a
  | .write i :: rest, C, a => ∀ w, C w → wpOp P ops Q i (fun a' w' => ∃ C' : World → Prop, (∀ x, C' x → C x) ∧ C' w' ∧ wpSegs P ops Q rest C' a') a w

def okReads (md : Region.Mode) (ops : Array Oper) : List Nat → Array Bool → Option (Array Bool)
  | [], listed => some listed
  | i :: rest, listed => if decide (i < ops.size) && Region.free md ops listed i && (Region.ready md ops listed).contains i && ((ops[i]?).map isRead).getD false then okReads md ops rest (listed.setIfInBounds i true) else none
def okSegs (md : Region.Mode) (ops : Array Oper) : List Seg → Array Bool → Bool
  | [], listed => (Region.ready md ops listed).isEmpty
  | .reads l :: rest, listed => match okReads md ops l listed with
    | some listed' => okSegs md ops rest listed'
    | none => false
  | .write i :: rest, listed => (Region.ready md ops listed == [i]) && okSegs md ops rest (listed.setIfInBounds i true)

theorem wpAny_mono {Q : Exit → Act → World → Prop} {S S' : World → Prop} (h : ∀ x, S' x → S x) : ∀ (fuel : Nat) (listed : Array Bool) (a : Act) (w : World), wpAnyH P md ops Q S' fuel listed a w → wpAnyH P md ops Q S fuel listed a w
  | 0, _, _, _, h1 => h1
  | fuel + 1, _, _, _, h1 => ⟨h1.1, fun i hi => wpOp_mono (fun a' w' h2 => ⟨h _ h2.1, wpAny_mono h fuel _ a' w' h2.2⟩) (h1.2 i hi)⟩

/-- How many operations are still to come. -/
def segLen : List Seg → Nat
  | [] => 0
  | .reads l :: rest => l.length + segLen rest
  | .write _ :: rest => 1 + segLen rest

theorem reads_sound (hs : Region.noSelect ops = true) (hQ : ∀ c a d v w, Q (.panic c) (a.put d v) w → Q (.panic c) a w) {C : World → Prop} {K : Act → Prop} (fuel : Nat) {lst : Array Bool}
    (hK : ∀ a w, C w → K a → wpAnyH P md ops Q C fuel lst a w) : ∀ (l : List Nat) (listed : Array Bool) (a : Act) (w : World), okReads md ops l listed = some lst → C w →
    wpQuiet P ops C K (l.filterMap (ops[·]?)) a → wpAnyH P md ops Q C (l.length + fuel) listed a w
  | [], listed, a, w, hok, hC, h => by
    simp only [okReads, Option.some.injEq] at hok
    subst hok
    simpa using hK a w hC (by simpa [wpQuiet] using h)
  | i :: rest, listed, a, w, hok, hC, h => by
    unfold okReads at hok
    split at hok
    · rename_i hc
      simp only [Bool.and_eq_true] at hc
      obtain ⟨⟨⟨hi, hf⟩, hr⟩, hrd⟩ := hc
      have hi' : i < ops.size := of_decide_eq_true hi
      have ho : ops[i]? = some ops[i] := Array.getElem?_eq_getElem hi'
      simp only [ho, Option.map_some, Option.getD_some] at hrd
      rw [List.filterMap_cons, ho] at h
      simp only [wpQuiet] at h
      have key : ∀ v, YieldsIf P ops C ops[i] v a → wpQuiet P ops C K (rest.filterMap (ops[·]?)) (a.put ops[i].dst v) → wpAnyH P md ops Q C ((i :: rest).length + fuel) listed a w := fun v hy h2 => by
        rw [List.length_cons, Nat.add_right_comm]
        exact wpAnyH_take ho hs hf hr (fun c a w => hQ c a _ v w) hy hC (reads_sound hs hQ fuel hK rest _ _ w hok hC h2)
      split at h
      · rename_i hw
        obtain ⟨v, h1, h2⟩ := h
        exact key v (yieldsIf_of_quiet hrd hw h1) h2
      · rename_i hw
        exact key undef (.inr ⟨by simpa using hw, rfl⟩) h
    · cases hok

theorem segs_sound (hs : Region.noSelect ops = true) (hQ : ∀ c a d v w, Q (.panic c) (a.put d v) w → Q (.panic c) a w) : ∀ (l : List Seg) (C : World → Prop) (listed : Array Bool) (a : Act) (w : World), okSegs md ops l listed = true → C w →
    wpSegs P ops Q l C a → wpAnyH P md ops Q C (segLen l) listed a w
  | [], C, listed, a, w, hok, hC, h => ⟨by simpa [okSegs] using hok, h w hC⟩
  | .reads l :: rest, C, listed, a, w, hok, hC, h => by
    unfold okSegs at hok
    split at hok
    · rename_i lst hl
      exact reads_sound hs hQ (segLen rest) (fun a' w' hC' hK => segs_sound hs hQ rest C lst a' w' hok hC' hK) l listed a w hl hC h
    · cases hok
  | .write i :: rest, C, listed, a, w, hok, hC, h => by
    simp only [okSegs, Bool.and_eq_true, beq_iff_eq] at hok
    have h1 := h w hC
    show wpAnyH P md ops Q C (1 + segLen rest) listed a w
    rw [Nat.add_comm]
    refine wpAnyH_all hok.1 (by simp) fun j hj => ?_
    obtain rfl : j = i := by simpa using hj
    exact wpOp_mono (fun a' w' ⟨C', hsub, hC', h2⟩ => ⟨hsub _ hC', wpAny_mono hsub _ _ _ _ (segs_sound hs hQ rest C' _ a' w' hok.2 hC' h2)⟩) h1

theorem wp_region_segs {id : Nat} {a : Act} {w : World} (l : List Seg) (C : World → Prop) (hm : P.follows .mixedOrders = true) (hs : Region.noSelect ops = true) (hlen : segLen l = ops.size) (hok : okSegs .any ops l (Array.replicate ops.size false) = true)
    (hC : C w.drew) (h : wpSegs P ops (NoPanic Q) l C a) : (Code.region id ops true).wp P Q a w := by
  refine wp_region_noPanic (wp_region_held (S := C) hm ?_)
  have := segs_sound (md := .any) hs (fun _ _ _ _ _ h => h) l C (Array.replicate ops.size false) a w.drew hok hC h
  rw [hlen] at this
  exact this
theorem wpSegs_write {i : Nat} {rest : List Seg} {C : World → Prop} {a : Act} {o : Oper} (ho : ops[i]? = some o)
    (h : ∀ w, C w → ∀ K : Act → World → Prop, (∀ (C' : World → Prop) a' w', (∀ x, C' x → C x) → C' w' → wpSegs P ops Q rest C' a' → K a' w') → if Region.wanted o (yielded ops a.tmps) = true then Oper.wp P o a w K Q else K (a.put o.dst undef) w) :
    wpSegs P ops Q (.write i :: rest) C a := fun w hC => by
  have h1 := h w hC (fun a' w' => ∃ C' : World → Prop, (∀ x, C' x → C x) ∧ C' w' ∧ wpSegs P ops Q rest C' a') (fun C' a' w' h1 h2 h3 => ⟨C', h1, h2, h3⟩)
  unfold wpOp
  simp only [ho]
  split at h1
  · rename_i hw
    rw [if_pos hw]
    exact .inl h1
  · rename_i hw
    rw [if_neg hw]
    exact h1
theorem wpSegs_reads {l : List Nat} {rest : List Seg} {C : World → Prop} {a : Act} {L : List Oper} (hL : l.filterMap (ops[·]?) = L) (h : ∀ K : Act → Prop, (∀ a', wpSegs P ops Q rest C a' → K a') → wpQuiet P ops C K L a) : wpSegs P ops Q (.reads l :: rest) C a := by
  show wpQuiet P ops C (fun a' => wpSegs P ops Q rest C a') (l.filterMap (ops[·]?)) a
  rw [hL]
  exact h _ (fun _ h => h)
theorem wpSegs_nil {C : World → Prop} {a : Act} (h : ∀ w, C w → Q .normal a w) : wpSegs P ops (NoPanic Q) [] C a := h
end
/-- A world behind another. -/
def Ext (w : World) : Type := { W : World // Go.RowKit.Below w.heap.size w W }
instance (w : World) : Nonempty (Ext w) := ⟨⟨w, Go.RowKit.Below.refl _ _⟩⟩
end Go.Proofs.Ytcbngjpihcemiaa

/- A region that draws its order, walked once: the very world at each writer, a class of worlds for what reads. Over any program. -/
namespace Go.Proofs.Ytcbngjpihcemiaa

section
variable {P : Program} {ops : Array Oper} {Q : Exit → Act → World → Prop} {md : Region.Mode}

/-- The walk: what is read is the same in every world of the class; what writes is carried out in the world at hand. -/
def wpPcs (P : Program) (ops : Array Oper) (Q : Exit → Act → World → Prop) : List Seg → (World → Prop) → Act → World → Prop
  | [], _, a, w => Q .normal a w
  | .reads l :: rest, C, a, w => wpQuiet P ops C (fun a' => wpPcs P ops Q rest C a' w) (l.filterMap (ops[·]?)) a
  | .write i :: rest, C, a, w => wpOp P ops Q i (fun a' w' => ∃ C' : World → Prop, (∀ x, C' x → C x) ∧ C' w' ∧ wpPcs P ops Q rest C' a' w') a w

theorem reads_sound2 (hs : Region.noSelect ops = true) (hQ : ∀ c a d v w, Q (.panic c) (a.put d v) w → Q (.panic c) a w) {C : World → Prop} {K : Act → Prop} (fuel : Nat) {lst : Array Bool} (w : World) (hC : C w)
    (hK : ∀ a, K a → wpAnyH P md ops Q C fuel lst a w) : ∀ (l : List Nat) (listed : Array Bool) (a : Act), okReads md ops l listed = some lst →
    wpQuiet P ops C K (l.filterMap (ops[·]?)) a → wpAnyH P md ops Q C (l.length + fuel) listed a w
  | [], listed, a, hok, h => by
    simp only [okReads, Option.some.injEq] at hok
    subst hok
    simpa using hK a (by simpa [wpQuiet] using h)
  | i :: rest, listed, a, hok, h => by
    unfold okReads at hok
    split at hok
    · rename_i hc
      simp only [Bool.and_eq_true] at hc
      obtain ⟨⟨⟨hi, hf⟩, hr⟩, hrd⟩ := hc
      have hi' : i < ops.size := of_decide_eq_true hi
      have ho : ops[i]? = some ops[i] := Array.getElem?_eq_getElem hi'
      simp only [ho, Option.map_some, Option.getD_some] at hrd
      rw [List.filterMap_cons, ho] at h
      simp only [wpQuiet] at h
      have key : ∀ v, YieldsIf P ops C ops[i] v a → wpQuiet P ops C K (rest.filterMap (ops[·]?)) (a.put ops[i].dst v) → wpAnyH P md ops Q C ((i :: rest).length + fuel) listed a w := fun v hy h2 => by
        rw [List.length_cons, Nat.add_right_comm]
        exact wpAnyH_take ho hs hf hr (fun c a w => hQ c a _ v w) hy hC (reads_sound2 hs hQ fuel w hC hK rest _ _ hok h2)
      split at h
      · rename_i hw
        obtain ⟨v, h1, h2⟩ := h
        exact key v (yieldsIf_of_quiet hrd hw h1) h2
      · rename_i hw
        exact key undef (.inr ⟨by simpa using hw, rfl⟩) h
    · cases hok

theorem pcs_sound (hs : Region.noSelect ops = true) (hQ : ∀ c a d v w, Q (.panic c) (a.put d v) w → Q (.panic c) a w) : ∀ (l : List Seg) (C : World → Prop) (listed : Array Bool) (a : Act) (w : World), okSegs md ops l listed = true → C w →
    wpPcs P ops Q l C a w → wpAnyH P md ops Q C (segLen l) listed a w
  | [], C, listed, a, w, hok, hC, h => ⟨by simpa [okSegs] using hok, h⟩
  | .reads l :: rest, C, listed, a, w, hok, hC, h => by
    unfold okSegs at hok
    split at hok
    · rename_i lst hl
      exact reads_sound2 hs hQ (segLen rest) w hC (fun a' hK => pcs_sound hs hQ rest C lst a' w hok hC hK) l listed a hl h
    · cases hok
  | .write i :: rest, C, listed, a, w, hok, hC, h => by
    simp only [okSegs, Bool.and_eq_true, beq_iff_eq] at hok
    show wpAnyH P md ops Q C (1 + segLen rest) listed a w
    rw [Nat.add_comm]
    refine wpAnyH_all hok.1 (by simp) fun j hj => ?_
    obtain rfl : j = i := by simpa using hj
    exact wpOp_mono (fun a' w' ⟨C', hsub, hC', h2⟩ => ⟨hsub _ hC', wpAny_mono hsub _ _ _ _ (pcs_sound hs hQ rest C' _ a' w' hok.2 hC' h2)⟩) h

theorem wp_region_pcs {id : Nat} {a : Act} {w : World} (l : List Seg) (C : World → Prop) (hm : P.follows .mixedOrders = true) (hs : Region.noSelect ops = true) (hlen : segLen l = ops.size) (hok : okSegs .any ops l (Array.replicate ops.size false) = true)
    (hC : C w.drew) (h : wpPcs P ops (NoPanic Q) l C a w.drew) : (Code.region id ops true).wp P Q a w := by
  refine wp_region_noPanic (wp_region_held (S := C) hm ?_)
  have := pcs_sound (md := .any) hs (fun _ _ _ _ _ h => h) l C (Array.replicate ops.size false) a w.drew hok hC h
  rw [hlen] at this
  exact this
theorem wpPcs_write {i : Nat} {rest : List Seg} {C : World → Prop} {a : Act} {w : World} {o : Oper} (ho : ops[i]? = some o)
    (h : ∀ K : Act → World → Prop, (∀ (C' : World → Prop) a' w', (∀ x, C' x → C x) → C' w' → wpPcs P ops Q rest C' a' w' → K a' w') → if Region.wanted o (yielded ops a.tmps) = true then Oper.wp P o a w K Q else K (a.put o.dst undef) w) :
    wpPcs P ops Q (.write i :: rest) C a w := by
  have h1 := h (fun a' w' => ∃ C' : World → Prop, (∀ x, C' x → C x) ∧ C' w' ∧ wpPcs P ops Q rest C' a' w') (fun C' a' w' h1 h2 h3 => ⟨C', h1, h2, h3⟩)
  show wpOp P ops Q i _ a w
  unfold wpOp
  simp only [ho]
  split at h1
  · rename_i hw
    rw [if_pos hw]
    exact .inl h1
  · rename_i hw
    rw [if_neg hw]
    exact h1
theorem wpPcs_reads {l : List Nat} {rest : List Seg} {C : World → Prop} {a : Act} {w : World} {L : List Oper} (hL : l.filterMap (ops[·]?) = L) (h : ∀ K : Act → Prop, (∀ a', wpPcs P ops Q rest C a' w → K a') → wpQuiet P ops C K L a) : wpPcs P ops Q (.reads l :: rest) C a w := by
  show wpQuiet P ops C (fun a' => wpPcs P ops Q rest C a' w) (l.filterMap (ops[·]?)) a
  rw [hL]
  exact h _ (fun _ h => h)
theorem wpPcs_nil {C : World → Prop} {a : Act} {w : World} (h : Q .normal a w) : wpPcs P ops (NoPanic Q) [] C a w := h
/-- The head of a plain region's list, walked by the cheap step. -/
theorem wpList_quiet_app : ∀ (l1 l2 : List Oper) (a : Act) (w : World) (K : Act → Prop), (∀ a', K a' → wpList P ops Q l2 a' w) → l1.all isRead = true → wpQuiet P ops (fun W => W = w) K l1 a → wpList P ops Q (l1 ++ l2) a w
  | [], l2, a, w, K, hK, _, h => hK a h
  | o :: l1, l2, a, w, K, hK, hr, h => by
    simp only [List.all_cons, Bool.and_eq_true] at hr
    simp only [wpQuiet] at h
    refine wpList_step fun K' hK' => ?_
    split at h
    · rename_i hw
      rw [if_pos hw]
      obtain ⟨v, h1, h2⟩ := h
      have hy := yieldsIf_of_quiet (ops := ops) hr.1 hw h1
      have h3 := wpList_quiet_app l1 l2 _ w K hK hr.2 h2
      rcases hy with ⟨_, hy⟩ | ⟨hn, _⟩
      · unfold Oper.wp
        rw [hy w rfl]
        exact hK' _ _ h3
      · rw [hw] at hn; cases hn
    · rename_i hw
      rw [if_neg hw]
      exact hK' _ _ (wpList_quiet_app l1 l2 _ w K hK hr.2 h)
theorem wpList_quiet (n : Nat) {l : List Oper} {a : Act} {w : World} (hr : (l.take n).all isRead = true) (h : ∀ K : Act → Prop, (∀ a', wpList P ops Q (l.drop n) a' w → K a') → wpQuiet P ops (fun W => W = w) K (l.take n) a) : wpList P ops Q l a w := by
  rw [← List.take_append_drop n l]
  exact wpList_quiet_app _ _ a w _ (fun _ h => h) hr (h _ (fun _ h => h))
end
/-- A world of a kind. -/
def Wof (p : World → Prop) : Type := { W : World // p W }
end Go.Proofs.Ytcbngjpihcemiaa
