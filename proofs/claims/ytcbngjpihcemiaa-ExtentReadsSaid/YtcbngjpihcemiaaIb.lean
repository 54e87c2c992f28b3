/- The quick heap's blocks and heaps, and what they stand for. -/
import Derived.Test.YtcbngjpihcemiaaIa
namespace Go.Proofs.Ytcbngjpihcemiaa
open Go.RowKit

/-- A block: n cells; those that the trie does not have are d. -/
structure FB where
  t : TypeId
  z : Nat
  n : Nat
  c : Tr Value
  d : Value
  rw : Bool
noncomputable def FB.get (b : FB) (i : Nat) : Value := Option.rec b.d (fun v => v) (b.c.get i)
noncomputable def FB.cells (b : FB) : List Value := (List.range b.n).map b.get
noncomputable def FB.abs (b : FB) : Blk := ⟨b.t, b.z, b.cells, b.rw⟩
/-- A heap of n blocks. -/
structure PH where
  n : Nat
  t : Tr FB
noncomputable def PH.at (h : PH) (i : Nat) : Option FB := bsel (Nat.blt i h.n) (h.t.get i) none
noncomputable def PH.abs (h : PH) : Hp := (List.range h.n).map fun i => (h.t.get i).map FB.abs
noncomputable def PH.pushK {β : Type} (h : PH) (b : FB) (c : PH → β) : β := Tr.setK 64 h.t h.n (some b) fun t => fN (Nat.succ h.n) fun n => c ⟨n, t⟩
noncomputable def PH.putK {β : Type} (h : PH) (i : Nat) (b : FB) (c : PH → β) : β := Tr.setK 64 h.t i (some b) fun t => c ⟨h.n, t⟩
noncomputable def PH.killK {β : Type} (h : PH) (i : Nat) (c : PH → β) : β := Tr.setK 64 h.t i none fun t => c ⟨h.n, t⟩
section
variable {β : Type}
@[simp] theorem FB.cells_len (b : FB) : b.cells.length = b.n := by simp [FB.cells]
theorem FB.cells_get (b : FB) {i : Nat} (h : i < b.n) : b.cells[i]? = some (b.get i) := by
  simp [FB.cells, h]
@[simp] theorem PH.abs_len (h : PH) : h.abs.length = h.n := by simp [PH.abs]
theorem PH.at_lt {h : PH} {i : Nat} {b : FB} (e : h.at i = some b) : i < h.n ∧ h.t.get i = some b := by
  unfold PH.at bsel at e
  by_cases hi : i < h.n
  · have : Nat.blt i h.n = true := by simpa using hi
    rw [this] at e
    exact ⟨hi, e⟩
  · have : Nat.blt i h.n = false := by
      cases hb : Nat.blt i h.n with
      | true => rw [Nat.blt_eq] at hb; exact absurd hb hi
      | false => rfl
    rw [this] at e
    cases e
theorem PH.abs_at {h : PH} {i : Nat} {b : FB} (e : h.at i = some b) : h.abs.at i = some b.abs := by
  obtain ⟨h1, h2⟩ := PH.at_lt e
  unfold Hp.at PH.abs
  simp [h1, h2]
theorem PH.abs_get (h : PH) (i : Nat) : h.abs[i]? = if i < h.n then some ((h.t.get i).map FB.abs) else none := by
  unfold PH.abs
  by_cases e : i < h.n
  · simp [e]
  · simp [e]
/-- A heap that is not too great. -/
def PH.small (h : PH) : Prop := h.n < trMax
theorem PH.push_eq (h : PH) (b : FB) (c : PH → β) : h.pushK b c = c ⟨h.n + 1, Tr.put 64 h.t h.n (some b)⟩ := by
  unfold PH.pushK
  rw [Tr.setK_eq, fN_eq]
theorem PH.put_eq (h : PH) (i : Nat) (b : FB) (c : PH → β) : h.putK i b c = c ⟨h.n, Tr.put 64 h.t i (some b)⟩ := by
  unfold PH.putK
  rw [Tr.setK_eq]
theorem PH.kill_eq (h : PH) (i : Nat) (c : PH → β) : h.killK i c = c ⟨h.n, Tr.put 64 h.t i none⟩ := by
  unfold PH.killK
  rw [Tr.setK_eq]
theorem PH.abs_push {h : PH} (b : FB) (hn : h.n < trMax) : PH.abs ⟨h.n + 1, Tr.put 64 h.t h.n (some b)⟩ = h.abs.push b.abs := by
  apply List.ext_getElem?
  intro i
  rw [PH.abs_get]
  simp only [Hp.push]
  rw [Tr.get_set hn]
  rcases Nat.lt_trichotomy i h.n with e | e | e
  · rw [if_pos (by omega), if_neg (by omega), List.getElem?_append_left (by simpa using e), PH.abs_get, if_pos e]
  · subst e
    rw [if_pos (by omega), if_pos rfl, List.getElem?_append_right (by simp)]
    simp
  · rw [if_neg (by omega), List.getElem?_append_right (by simp; omega), List.getElem?_eq_none (by simp; omega)]
theorem PH.abs_put {h : PH} {i : Nat} (b : FB) (hn : i < trMax) : PH.abs ⟨h.n, Tr.put 64 h.t i (some b)⟩ = h.abs.put i b.abs := by
  apply List.ext_getElem?
  intro j
  rw [PH.abs_get]
  simp only [Hp.put]
  rw [Tr.get_set hn, List.getElem?_set, PH.abs_get, PH.abs_len]
  by_cases e : j = i
  · subst e
    simp
  · rw [if_neg e, if_neg (Ne.symm e)]
theorem PH.abs_kill {h : PH} {i : Nat} (hn : i < trMax) : PH.abs ⟨h.n, Tr.put 64 h.t i none⟩ = h.abs.kill i := by
  apply List.ext_getElem?
  intro j
  rw [PH.abs_get]
  simp only [Hp.kill]
  rw [Tr.get_set hn, List.getElem?_set, PH.abs_get, PH.abs_len]
  by_cases e : j = i
  · subst e
    simp
  · rw [if_neg e, if_neg (Ne.symm e)]
end
theorem PH.at_of {h : PH} {i : Nat} (hi : i < h.n) : h.at i = h.t.get i := by
  unfold PH.at bsel
  have : Nat.blt i h.n = true := by simpa using hi
  rw [this]
/-- The blocks that are there. -/
noncomputable def live (H : PH) : List Nat := (List.range H.n).filter fun i => (H.at i).isSome
theorem live_mem {H : PH} {i : Nat} (h : i ∈ live H) : ∃ b, H.at i = some b := by
  unfold live at h
  rw [List.mem_filter] at h
  exact Option.isSome_iff_exists.1 h.2
theorem mem_live {H : PH} {i : Nat} {b : FB} (h : H.at i = some b) : i ∈ live H := by
  unfold live
  rw [List.mem_filter]
  exact ⟨List.mem_range.2 (PH.at_lt h).1, by rw [h]; rfl⟩
theorem live_lt {H : PH} {i : Nat} (h : i ∈ live H) : i < H.n := by
  obtain ⟨b, hb⟩ := live_mem h
  exact (PH.at_lt hb).1
/-- A heap behind another one: what was not there isn't, but for new blocks. -/
structure Mono (H H' : PH) : Prop where
  len : H.n ≤ H'.n
  old : ∀ i b', i < H.n → H'.at i = some b' → ∃ b, H.at i = some b
theorem Mono.refl (H : PH) : Mono H H := ⟨Nat.le_refl _, fun _ b' _ h => ⟨b', h⟩⟩
theorem Mono.trans {H H' H2 : PH} (h : Mono H H') (k : Mono H' H2) : Mono H H2 := ⟨Nat.le_trans h.len k.len, fun i b hi hb => by
  obtain ⟨b2, hb2⟩ := k.old i b (Nat.lt_of_lt_of_le hi h.len) hb
  exact h.old i b2 hi hb2⟩
theorem mono_push {H : PH} (b : FB) (hn : H.n < trMax) : Mono H ⟨H.n + 1, Tr.put 64 H.t H.n (some b)⟩ := ⟨Nat.le_succ _, fun i b' hi h => by
  obtain ⟨_, h2⟩ := PH.at_lt h
  simp only at h2
  rw [Tr.get_set hn, if_neg (by omega)] at h2
  exact ⟨b', by rw [PH.at_of hi]; exact h2⟩⟩
theorem mono_put {H : PH} {j : Nat} {b0 : FB} (b : FB) (hb : H.at j = some b0) (hj : j < trMax) : Mono H ⟨H.n, Tr.put 64 H.t j (some b)⟩ := ⟨Nat.le_refl _, fun i b' hi h => by
  by_cases e : i = j
  · subst e; exact ⟨b0, hb⟩
  · obtain ⟨_, h2⟩ := PH.at_lt h
    simp only at h2
    rw [Tr.get_set hj, if_neg e] at h2
    exact ⟨b', by rw [PH.at_of hi]; exact h2⟩⟩
theorem mono_kill {H : PH} {j : Nat} (hj : j < trMax) : Mono H ⟨H.n, Tr.put 64 H.t j none⟩ := ⟨Nat.le_refl _, fun i b' hi h => by
  obtain ⟨_, h2⟩ := PH.at_lt h
  simp only at h2
  rw [Tr.get_set hj] at h2
  by_cases e : i = j
  · rw [if_pos e] at h2; cases h2
  · rw [if_neg e] at h2
    exact ⟨b', by rw [PH.at_of hi]; exact h2⟩⟩
/-- So many cells, from a place on. -/
noncomputable def FB.run (b : FB) : Nat → Nat → List Value
  | _, 0 => []
  | o, k + 1 => b.get o :: FB.run b (Nat.succ o) k
theorem FB.run_eq (b : FB) : ∀ (k o : Nat), o + k ≤ b.n → b.run o k = (b.cells.drop o).take k
  | 0, o, _ => by simp [FB.run]
  | k + 1, o, h => by
    rw [FB.run, FB.run_eq b k (o + 1) (by omega)]
    have h1 : o < b.cells.length := by simp; omega
    have h2 : b.cells.drop o = b.get o :: b.cells.drop (o + 1) := by
      rw [List.drop_eq_getElem_cons h1]
      congr 1
      have := b.cells_get (i := o) (by omega)
      rw [List.getElem?_eq_getElem h1] at this
      exact Option.some.inj this
    rw [h2, List.take_succ_cons]
/-- Cells stored. -/
noncomputable def FB.putsK {β : Type} : List Value → Nat → Tr Value → (Tr Value → β) → β
  | [], _, t, c => c t
  | v :: vs, o, t, c => fW v fun v => Tr.setK 64 t o (some v) fun t => fN (Nat.succ o) fun o => FB.putsK vs o t c
def putsT : List Value → Nat → Tr Value → Tr Value
  | [], _, t => t
  | v :: vs, o, t => putsT vs (o + 1) (Tr.put 64 t o (some v))
theorem FB.puts_eq {β : Type} : ∀ (vs : List Value) (o : Nat) (t : Tr Value) (c : Tr Value → β), FB.putsK vs o t c = c (putsT vs o t)
  | [], _, _, _ => rfl
  | v :: vs, o, t, c => by rw [FB.putsK, fW_eq, Tr.setK_eq, fN_eq, FB.puts_eq vs]; rfl
theorem FB.set_cells (b : FB) {o : Nat} (v : Value) (h : o < trMax) : FB.cells { b with c := Tr.put 64 b.c o (some v) } = b.cells.set o v := by
  apply List.ext_getElem?
  intro j
  by_cases hj : j < b.n
  · rw [FB.cells_get _ (by exact hj), List.getElem?_set]
    unfold FB.get
    simp only
    rw [Tr.get_set h]
    by_cases e : j = o
    · subst e
      simp [hj]
    · rw [if_neg e, if_neg (Ne.symm e), FB.cells_get _ hj]
      rfl
  · rw [List.getElem?_eq_none (by simp; omega), List.getElem?_eq_none (by simp; omega)]
theorem FB.puts_cells : ∀ (vs : List Value) (b : FB) (o : Nat), o + vs.length ≤ b.n → b.n ≤ trMax → FB.cells { b with c := putsT vs o b.c } = splice b.cells o vs
  | [], b, o, _, _ => by simp [putsT, splice]
  | v :: vs, b, o, h, hn => by
    simp only [List.length_cons] at h
    have ih := FB.puts_cells vs { b with c := Tr.put 64 b.c o (some v) } (o + 1) (by simp only; omega) hn
    simp only at ih
    rw [putsT, ih, FB.set_cells _ _ (by omega)]
    have := gsets_splice (v :: vs) b.cells o (by simp; omega)
    rw [← this, gsets, gsets_splice vs _ _ (by simp; omega)]
/-- A new block of cells. -/
noncomputable def FB.newK {β : Type} (t : TypeId) (z : Nat) (cs : List Value) (c : FB → β) : β := FB.putsK cs (nat_lit 0) .e fun tr => fN cs.length fun n => c ⟨t, z, n, tr, undef, true⟩
theorem FB.new_eq {β : Type} (t : TypeId) (z : Nat) (cs : List Value) (c : FB → β) : FB.newK t z cs c = c ⟨t, z, cs.length, putsT cs 0 .e, undef, true⟩ := by
  unfold FB.newK
  rw [FB.puts_eq, fN_eq]
theorem FB.new_abs (t : TypeId) (z : Nat) (cs : List Value) (h : cs.length ≤ trMax) : FB.abs ⟨t, z, cs.length, putsT cs 0 .e, undef, true⟩ = ⟨t, z, cs, true⟩ := by
  unfold FB.abs
  have := FB.puts_cells cs ⟨t, z, cs.length, .e, undef, true⟩ 0 (by simp) h
  simp only at this
  rw [this]
  simp [splice]
/-- A new block of zeros. -/
noncomputable def FB.zeros (t : TypeId) (n : Nat) (v : Value) : FB := ⟨t, 1, n, .e, v, true⟩
theorem FB.zeros_abs (t : TypeId) (n : Nat) (v : Value) : (FB.zeros t n v).abs = ⟨t, 1, gmade [v] n, true⟩ := by
  unfold FB.abs
  congr 1
  rw [gmade_one]
  apply List.ext_getElem?
  intro i
  by_cases h : i < n
  · rw [FB.cells_get _ (by exact h)]
    simp [h]
    rfl
  · rw [List.getElem?_eq_none (by simpa [FB.zeros] using h), List.getElem?_eq_none (by simpa using h)]
end Go.Proofs.Ytcbngjpihcemiaa
