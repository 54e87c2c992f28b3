/- The ghost heap and the real one. Over any program. -/
import Derived.Test.YtcbngjpihcemiaaGa
import Derived.Test.YtcbngjpihcemiaaWe
namespace Go.Proofs.Ytcbngjpihcemiaa
open Go.RowKit

/-- Nothing of a row is frozen. -/
def FzOk (fz : Nat × Nat) (n : Nat) : Prop := fz.1 = fz.2 ∨ n ≤ fz.1
/-- The cells cs stand in a row, from d on. -/
def Cel (μ : Ren) (cs : List Value) (rs : Array Value) (d : Nat) : Prop := ∀ (j : Nat) (v : Value), cs[j]? = some v → ∃ v', rs[d + j]? = some v' ∧ VR μ v v'
/-- Ghost and real heap. -/
structure SimH (μ : Ren) (H : Hp) (w : World) : Prop where
  dom : ∀ i b, H.at i = some b → ∃ L rs t fz, μ i = some L ∧ L.z = b.z ∧ w.heap[L.g]? = some (.cells rs t fz) ∧ (b.rw = true → FzOk fz rs.size) ∧ (b.rw = true → rs.size = L.S) ∧ Cel μ b.cs rs L.d ∧ ∀ v ∈ b.cs, v.oneCell' = true
  len : ∀ i L, μ i = some L → i < H.length ∧ L.g < w.heap.size
  inj : ∀ i j b b' L L', H.at i = some b → H.at j = some b' → μ i = some L → μ j = some L' → L.g = L'.g → (b.rw = true ∨ b'.rw = true) → i = j

section real
variable {w : World} {g o : Nat} {rs : Array Value} {t : TypeId} {fz : Nat × Nat} {v : Value}
theorem real_load (h : w.heap[g]? = some (.cells rs t fz)) (hv : rs[o]? = some v) : w.cell? ⟨g, o, none⟩ = some v := by
  simp [World.cell?, h, hv]
theorem real_free (h : w.heap[g]? = some (.cells rs t fz)) (hf : FzOk fz rs.size) (ho : o < rs.size) : w.frozen? ⟨g, o, none⟩ = false := by
  obtain ⟨lo, hi⟩ := fz
  have : ¬ (lo ≤ o ∧ o < hi) := by
    unfold FzOk at hf
    simp only at hf
    omega
  simp only [World.frozen?, h]
  by_cases h1 : lo ≤ o
  · have h2 : ¬ o < hi := fun h2 => this ⟨h1, h2⟩
    simp [h2]
  · simp [h1]
theorem real_set (h : w.heap[g]? = some (.cells rs t fz)) : (w.setCell ⟨g, o, none⟩ v).heap[g]? = some (.cells (rs.setIfInBounds o v) t fz) := by
  simp [World.setCell, Array.getElem?_modify, h]
theorem real_set_ne {k : Nat} (h : k ≠ g) : (w.setCell ⟨g, o, none⟩ v).heap[k]? = w.heap[k]? := Below.heap_setCell w ⟨g, o, none⟩ v k h
theorem real_lt (h : w.heap[g]? = some (.cells rs t fz)) : g < w.heap.size := by
  rcases Nat.lt_or_ge g w.heap.size with h1 | h1
  · exact h1
  · rw [Array.getElem?_eq_none h1] at h
    cases h
end real

section
variable {μ ν : Ren} {H : Hp} {w w' : World} {i : Nat} {b : Blk}
theorem Cel.mono {cs : List Value} {rs : Array Value} {d : Nat} (h : Cel μ cs rs d) (he : Ext' μ ν) : Cel ν cs rs d := fun j v hv => let ⟨v', h1, h2⟩ := h j v hv; ⟨v', h1, h2.mono he⟩
theorem Cel.set {cs : List Value} {rs : Array Value} {d o : Nat} {v v' : Value} (h : Cel μ cs rs d) (ho : o < cs.length) (hv : VR μ v v') : Cel μ (cs.set o v) (rs.setIfInBounds (d + o) v') d := by
  intro j u hu
  by_cases e : o = j
  · subst e
    rw [List.getElem?_set_self ho] at hu
    injection hu with hu
    subst hu
    obtain ⟨x, hx, _⟩ := h o cs[o] (List.getElem?_eq_getElem ho)
    obtain ⟨hlt, _⟩ := Array.getElem?_eq_some_iff.1 hx
    exact ⟨v', by rw [Array.getElem?_setIfInBounds_self_of_lt hlt], hv⟩
  · rw [List.getElem?_set_ne e] at hu
    obtain ⟨u', h1, h2⟩ := h j u hu
    exact ⟨u', by rw [Array.getElem?_setIfInBounds_ne (by omega)]; exact h1, h2⟩
theorem Cel.len {cs : List Value} {rs : Array Value} {d : Nat} (h : Cel μ cs rs d) (h0 : 0 < cs.length) : d + cs.length ≤ rs.size := by
  obtain ⟨v', h1, _⟩ := h (cs.length - 1) _ (List.getElem?_eq_getElem (by omega))
  obtain ⟨hlt, _⟩ := Array.getElem?_eq_some_iff.1 h1
  omega
/-- A run of cells. -/
theorem Cel.run {cs : List Value} {rs : Array Value} {d : Nat} (h : Cel μ cs rs d) (o n : Nat) (hn : o + n ≤ cs.length) : ∃ l', VRs μ ((cs.drop o).take n) l' ∧ l'.length = n ∧ ∀ (j : Nat) (v' : Value), l'[j]? = some v' → rs[d + o + j]? = some v' := by
  induction n generalizing o with
  | zero => exact ⟨[], by simp; exact .nil, rfl, fun j v' hv => by simp at hv⟩
  | succ n ih =>
    obtain ⟨l, h1, h2, h3⟩ := ih (o + 1) (by omega)
    obtain ⟨v', h4, h5⟩ := h o _ (List.getElem?_eq_getElem (show o < cs.length by omega))
    refine ⟨v' :: l, ?_, by simp [h2], fun j u hu => ?_⟩
    · rw [List.drop_eq_getElem_cons (show o < cs.length by omega), List.take_succ_cons]
      exact .cons h5 h1
    · cases j with
      | zero => simp at hu; subst hu; exact h4
      | succ j =>
        have := h3 j u (by simpa using hu)
        rw [show d + o + (j + 1) = d + (o + 1) + j by omega]
        exact this
theorem SimH.cell (hs : SimH μ H w) (hb : H.at i = some b) {o : Nat} {v : Value} (hv : b.cs[o]? = some v) : ∃ L v', μ i = some L ∧ w.cell? ⟨L.g, L.d + o, none⟩ = some v' ∧ VR μ v v' := by
  obtain ⟨L, rs, t, fz, h1, _, h2, _, _, h5, _⟩ := hs.dom i b hb
  obtain ⟨v', h6, h7⟩ := h5 o v hv
  exact ⟨L, v', h1, real_load h2 h6, h7⟩
theorem SimH.run (hs : SimH μ H w) (hb : H.at i = some b) (o n : Nat) (hn : o + n ≤ b.cs.length) : ∃ L l', μ i = some L ∧ VRs μ ((b.cs.drop o).take n) l' ∧ l'.length = n ∧ ∀ (j : Nat) (v' : Value), l'[j]? = some v' → w.cell? ⟨L.g, L.d + o + j, none⟩ = some v' := by
  obtain ⟨L, rs, t, fz, h1, _, h2, _, _, h5, _⟩ := hs.dom i b hb
  obtain ⟨l', h6, h7, h8⟩ := h5.run o n hn
  exact ⟨L, l', h1, h6, h7, fun j v' hv => real_load h2 (h8 j v' hv)⟩
theorem SimH.one (hs : SimH μ H w) (hb : H.at i = some b) : ∀ v ∈ b.cs, v.oneCell' = true := by
  obtain ⟨_, _, _, _, _, _, _, _, _, _, h⟩ := hs.dom i b hb
  exact h
/-- A store into one cell. -/
theorem SimH.set (hs : SimH μ H w) (hb : H.at i = some b) (hrw : b.rw = true) {o : Nat} (ho : o < b.cs.length) {v v' : Value} (hv : VR μ v v') (h1 : v.oneCell' = true) {L : Loc} (hL : μ i = some L) :
    SimH μ (H.put i { b with cs := b.cs.set o v }) (w.setCell ⟨L.g, L.d + o, none⟩ v') := by
  have hlt := Hp.at_lt hb
  refine ⟨fun j c hc => ?_, fun j M hM => ?_, fun j k c c' M M' hj hk hM hM' hg hr => ?_⟩
  · by_cases e : i = j
    · subst e
      rw [Hp.at_put_eq hlt] at hc
      injection hc with hc
      subst hc
      obtain ⟨M, rs, t, fz, q1, q2, q3, q4, q5, q6, q7⟩ := hs.dom i b hb
      rw [hL] at q1
      injection q1 with q1
      subst q1
      refine ⟨L, rs.setIfInBounds (L.d + o) v', t, fz, hL, q2, real_set q3, by simpa using q4, fun h => by simpa using q5 h, q6.set ho hv, fun u hu => ?_⟩
      rcases List.mem_or_eq_of_mem_set hu with hu | rfl
      · exact q7 u hu
      · exact h1
    · rw [Hp.at_put_ne e] at hc
      obtain ⟨M, rs, t, fz, q1, q2, q3, q4, q5, q6, q7⟩ := hs.dom j c hc
      refine ⟨M, rs, t, fz, q1, q2, ?_, q4, q5, q6, q7⟩
      rw [real_set_ne (fun hg => e (hs.inj i j b c L M hb hc hL q1 hg.symm (.inl hrw)))]
      exact q3
  · obtain ⟨q1, q2⟩ := hs.len j M hM
    exact ⟨by rw [Hp.len_put]; exact q1, by simpa [World.setCell] using q2⟩
  · have key : ∀ j c, (H.put i { b with cs := b.cs.set o v }).at j = some c → ∃ c0, H.at j = some c0 ∧ c0.rw = c.rw := fun j c hc => by
      by_cases e : i = j
      · subst e
        rw [Hp.at_put_eq hlt] at hc
        injection hc with hc
        exact ⟨b, hb, by rw [← hc]⟩
      · rw [Hp.at_put_ne e] at hc
        exact ⟨c, hc, rfl⟩
    obtain ⟨c0, e1, e2⟩ := key j c hj
    obtain ⟨c0', e3, e4⟩ := key k c' hk
    exact hs.inj j k c0 c0' M M' e1 e3 hM hM' hg (by rw [e2, e4]; exact hr)
/-- Whatever leaves the blocks as they are. -/
theorem SimH.keep (hs : SimH μ H w) (hz : w.heap.size ≤ w'.heap.size) (hk : ∀ i b L, H.at i = some b → μ i = some L → w'.heap[L.g]? = w.heap[L.g]?) : SimH μ H w' :=
  ⟨fun i b hb => let ⟨L, rs, t, fz, q1, q2, q3, q4⟩ := hs.dom i b hb; ⟨L, rs, t, fz, q1, q2, (hk i b L hb q1).trans q3, q4⟩,
   fun i L hL => let ⟨q1, q2⟩ := hs.len i L hL; ⟨q1, by omega⟩, hs.inj⟩
theorem SimH.below (hs : SimH μ H w) (hb : Below w.heap.size w w') : SimH μ H w' := hs.keep hb.size fun _ _ _ _ hL => hb.block _ (hs.len _ _ hL).2
theorem SimH.drew (hs : SimH μ H w) : SimH μ H w.drew := hs.keep (Nat.le_refl _) fun _ _ _ _ _ => rfl
theorem SimH.kill (hs : SimH μ H w) (i : Nat) : SimH μ (H.kill i) w := by
  have key : ∀ j c, (H.kill i).at j = some c → H.at j = some c := fun j c hc => by
    by_cases e : i = j
    · subst e
      rw [Hp.at_kill_eq] at hc
      cases hc
    · rw [Hp.at_kill_ne e] at hc
      exact hc
  exact ⟨fun j c hc => hs.dom j c (key j c hc), fun j L hL => by rw [Hp.len_kill]; exact hs.len j L hL, fun j k c c' M M' hj hk => hs.inj j k c c' M M' (key j c hj) (key k c' hk)⟩
/-- One renaming more. -/
def Ren.upd (μ : Ren) (i : Nat) (L : Loc) : Ren := fun j => if j = i then some L else μ j
theorem Ren.upd_eq (μ : Ren) (i : Nat) (L : Loc) : μ.upd i L i = some L := if_pos rfl
theorem Ren.upd_ne (μ : Ren) {i j : Nat} (L : Loc) (h : j ≠ i) : μ.upd i L j = μ j := if_neg h
theorem SimH.fresh (hs : SimH μ H w) (L : Loc) : Ext' μ (μ.upd H.length L) := fun i x hx => by
  have := (hs.len i x hx).1
  rw [Ren.upd_ne _ _ (by omega)]
  exact hx
/-- A new block, at a place where no other one is (a new one, or one whose ghost is dead). -/
theorem SimH.add (hs : SimH μ H w) (hz : w.heap.size ≤ w'.heap.size) (b : Blk) (L : Loc) (rs : Array Value) (t : TypeId) (fz : Nat × Nat) (hz1 : L.z = b.z) (hg : w'.heap[L.g]? = some (.cells rs t fz)) (hf : FzOk fz rs.size) (hS : rs.size = L.S)
    (hc : Cel (μ.upd H.length L) b.cs rs L.d) (h1 : ∀ v ∈ b.cs, v.oneCell' = true) (hk : ∀ i c M, H.at i = some c → μ i = some M → M.g ≠ L.g ∧ w'.heap[M.g]? = w.heap[M.g]?) : SimH (μ.upd H.length L) (H.push b) w' := by
  have he := hs.fresh L
  have key : ∀ j c, (H.push b).at j = some c → (j < H.length ∧ H.at j = some c) ∨ (j = H.length ∧ c = b) := fun j c hc => by
    have hlt := Hp.at_lt hc
    rw [Hp.len_push] at hlt
    rcases Nat.lt_or_ge j H.length with h | h
    · rw [Hp.at_push_lt h] at hc
      exact .inl ⟨h, hc⟩
    · obtain rfl : j = H.length := by omega
      rw [Hp.at_push_eq] at hc
      injection hc with hc
      exact .inr ⟨rfl, hc.symm⟩
  refine ⟨fun j c hc' => ?_, fun j M hM => ?_, fun j k c c' M M' hj hk' hM hM' hgg hr => ?_⟩
  · rcases key j c hc' with ⟨hlt, hc'⟩ | ⟨rfl, rfl⟩
    · obtain ⟨M, rs', t', fz', q1, q2, q3, q4, q5, q6, q7⟩ := hs.dom j c hc'
      exact ⟨M, rs', t', fz', he j M q1, q2, (hk j c M hc' q1).2.trans q3, q4, q5, q6.mono he, q7⟩
    · exact ⟨L, rs, t, fz, Ren.upd_eq _ _ _, hz1, hg, fun _ => hf, fun _ => hS, hc, h1⟩
  · rw [Hp.len_push]
    by_cases e : j = H.length
    · subst e
      rw [Ren.upd_eq] at hM
      injection hM with hM
      subst hM
      exact ⟨by omega, real_lt hg⟩
    · rw [Ren.upd_ne _ _ e] at hM
      obtain ⟨q1, q2⟩ := hs.len j M hM
      exact ⟨by omega, by omega⟩
  · rcases key j c hj with ⟨hlt, hj2⟩ | ⟨rfl, rfl⟩
    · rcases key k c' hk' with ⟨hlt', hk2⟩ | ⟨rfl, rfl⟩
      · rw [Ren.upd_ne _ _ (by omega)] at hM hM'
        exact hs.inj j k c c' M M' hj2 hk2 hM hM' hgg hr
      · rw [Ren.upd_eq] at hM'
        injection hM' with hM'
        subst hM'
        rw [Ren.upd_ne _ _ (by omega)] at hM
        exact absurd hgg (hk j c M hj2 hM).1
    · rcases key k c' hk' with ⟨hlt', hk2⟩ | ⟨rfl, rfl⟩
      · rw [Ren.upd_eq] at hM
        injection hM with hM
        subst hM
        rw [Ren.upd_ne _ _ (by omega)] at hM'
        exact absurd hgg.symm (hk k c' M' hk2 hM').1
      · rfl
/-- A block just made. -/
theorem SimH.new (hs : SimH μ H w) (b : Blk) (rs : List Value) (t : TypeId) (hr : VRs μ b.cs rs) (h1 : ∀ v ∈ b.cs, v.oneCell' = true) :
    SimH (μ.upd H.length ⟨w.heap.size, 0, rs.length, b.z⟩) (H.push b) (w.alloc (.cells rs.toArray t)) := by
  refine hs.add (by simp) b ⟨w.heap.size, 0, rs.length, b.z⟩ rs.toArray t (0, 0) rfl (heap_alloc_new w _) (.inl rfl) (by simp) (fun j v hv => ?_) h1 (fun i c M _ hM => ?_)
  · obtain ⟨v', h2, h3⟩ := hr.get j v hv
    exact ⟨v', by simpa using h2, h3.mono (hs.fresh _)⟩
  · have := (hs.len i M hM).2
    exact ⟨by simp only; omega, heap_alloc_old w _ this⟩
end
end Go.Proofs.Ytcbngjpihcemiaa
