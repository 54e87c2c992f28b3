/- What came in, opened for a walk: a slice of bytes, of whole numbers; over any program. -/
import Derived.Test.YtcbngjpihcemiaaWd
import Derived.ProofKit
import Derived.OpenShut
import Derived.ShutString
import Derived.ChangeOld
import Derived.Deep.Slices
import Derived.Deep.Fields
import Derived.SizedLaws
namespace Go.Proofs.Ytcbngjpihcemiaa
open Go.RowKit Go.ChangeShapes Go.WideShapes Go.ChangeAt

section
variable {H : Type} {enc : TypeId × Value → H} {P : Program} {w : World}

/-- Whole numbers of a kind as cells. -/
def vi (k : IntKind) (l : List Int) : List Value := l.map fun n => .int k n

theorem open_nums {t e : TypeId} {k : IntKind} {b0 : Nat} {v : Value} {d : DataW H} {p : List MemPlace} (ht : P.underlying t = some (.slice e)) (he : P.underlying e = some (.int k)) (hC : P.cellsOf e = 1)
    (hv : Value.okWide P w .any b0 t v) (h : DataW.Trod enc P w 0 (fun _ => true) true t v d p) :
    ∃ (A : Option Addr) (n c : Nat) (l : List Int), v = .slice A n c ∧ l.length = n ∧ n ≤ c ∧ c ≤ maxLen ∧ (A = none → n = 0 ∧ c = 0) ∧ Rd w w.heap.size A (vi k l) ∧ ∀ x ∈ l, (Lit.int k x).wf = true := by
  obtain ⟨A, n, c, rfl⟩ := okWide_slice ht hv
  have hk := h
  have hlt : ∀ x ∈ p, x.block < w.heap.size := by obtain ⟨m, hm⟩ := hk; exact DataW.trod_lt m _ _ _ hm
  obtain ⟨fuel, hf⟩ := h
  rcases open_ints ht he hC hf with ⟨hcs, _⟩ | ⟨x, ln, cp, zs, hcs, _, hl, hm, hz, hx, hcell, hwz⟩
  · simp [Value.cells] at hcs
    obtain ⟨rfl, rfl, rfl⟩ := hcs
    exact ⟨none, 0, 0, [], rfl, rfl, Nat.le_refl _, by simp [maxLen], fun _ => ⟨rfl, rfl⟩, Rd.nil_ _ _ _, by simp⟩
  · simp [Value.cells] at hcs
    obtain ⟨rfl, rfl, rfl⟩ := hcs
    have hz' : zs.length = c := by simpa using hz
    refine ⟨some x, n, c, zs.take n, rfl, by rw [List.length_take]; omega, hl, hm, (fun h => by cases h), ?_, fun y hy => hwz y (List.mem_of_mem_take hy)⟩
    intro j u hu
    have hj : j < zs.length := by
      simp only [vi, List.getElem?_map, List.getElem?_take] at hu
      split at hu
      · rename_i hjn
        omega
      · simp at hu
    have hc := hcell j hj
    obtain ⟨b, off, spot⟩ := x
    have hspot : spot = none := by
      have h0 := hcell 0 (by omega)
      simpa [Addr.add] using World.cell?_spot h0
    subst hspot
    refine ⟨b, off, rfl, ?_, ?_⟩
    · rw [Addr.add_lit] at hc
      exact World.block_lt_of_cell? w _ hc
    · rw [Addr.add_lit] at hc
      rw [hc]
      simp only [vi, List.getElem?_map, List.getElem?_take] at hu
      split at hu
      · rw [List.getD_eq_getElem?_getD]
        rw [List.getElem?_eq_getElem hj] at hu ⊢
        simpa using hu
      · simp at hu

theorem wf_u8 {x : Int} (h : (Lit.int .u8 x).wf = true) : 0 ≤ x ∧ x < 256 := by
  have := bounds_u8 h
  omega

theorem open_bytes {t e : TypeId} {b0 : Nat} {v : Value} {d : DataW H} {p : List MemPlace} (ht : P.underlying t = some (.slice e)) (he : P.underlying e = some (.int .u8)) (hC : P.cellsOf e = 1)
    (hv : Value.okWide P w .any b0 t v) (h : DataW.Trod enc P w 0 (fun _ => true) true t v d p) :
    ∃ (A : Option Addr) (n c : Nat) (l : List UInt8), v = .slice A n c ∧ l.length = n ∧ n ≤ c ∧ c ≤ maxLen ∧ (A = none → n = 0 ∧ c = 0) ∧ Rd w w.heap.size A (vb l) := by
  obtain ⟨A, n, c, zs, hv', hl, hn, hm, hA, hr, hw⟩ := open_nums ht he hC hv h
  refine ⟨A, n, c, zs.map fun x => UInt8.ofNat x.toNat, hv', by simpa using hl, hn, hm, hA, ?_⟩
  have e : vb (zs.map fun x => UInt8.ofNat x.toNat) = vi .u8 zs := by
    simp only [vb, vi, List.map_map]
    refine List.map_congr_left fun x hx => ?_
    have hb := wf_u8 (hw x hx)
    have h2 : (UInt8.ofNat x.toNat).toNat = x.toNat := by simp; omega
    show Value.int .u8 ((UInt8.ofNat x.toNat).toNat : Int) = _
    rw [h2, Int.toNat_of_nonneg hb.1]
  rw [e]
  exact hr

theorem flat_get {α : Type} {f : α → List Value} {C : Nat} (hf : ∀ a, (f a).length = C) : ∀ (l : List α) (j : Nat) (u : Value), (l.flatMap f)[j]? = some u → ∃ i r a, l[i]? = some a ∧ (f a)[r]? = some u ∧ j = i * C + r
  | [], j, u, h => by simp at h
  | a :: l, j, u, h => by
    rw [List.flatMap_cons, List.getElem?_append] at h
    split at h
    · exact ⟨0, j, a, rfl, h, by simp⟩
    · rename_i hj
      rw [hf] at h hj
      obtain ⟨i, r, b, h1, h2, h3⟩ := flat_get hf l _ u h
      exact ⟨i + 1, r, b, h1, h2, by rw [Nat.add_mul]; omega⟩

theorem list_of {α : Type} {Q : Nat → α → Prop} : ∀ n : Nat, (∀ i, i < n → ∃ a, Q i a) → ∃ l : List α, l.length = n ∧ ∀ i a, l[i]? = some a → Q i a
  | 0, _ => ⟨[], rfl, fun i a h => by simp at h⟩
  | n + 1, h => by
    obtain ⟨l, h1, h2⟩ := list_of n fun i hi => h i (by omega)
    obtain ⟨a, ha⟩ := h n (by omega)
    refine ⟨l ++ [a], by simp [h1], fun i b hb => ?_⟩
    rw [List.getElem?_append] at hb
    split at hb
    · exact h2 i b hb
    · rename_i hi
      have : i = n := by
        rcases Nat.lt_or_ge (i - l.length) 1 with h3 | h3
        · omega
        · rw [List.getElem?_eq_none (by simpa using h3)] at hb
          cases hb
      subst this
      rw [h1] at hb
      simp at hb
      subst hb
      exact ha

/-- A slice whose elements' cells are f a, for an a that is ok. -/
theorem open_list {α : Type} {t e : TypeId} {b0 : Nat} {v : Value} {d : DataW H} {p : List MemPlace} (f : α → List Value) (ok : α → Prop) (ht : P.underlying t = some (.slice e)) (hf : ∀ a, (f a).length = P.cellsOf e)
    (he : ∀ (fuel : Nat) (cs : List Value) (x : DataW H × List MemPlace), DataW.trod enc P w 0 (fun _ => true) true fuel e cs = some x → ∃ a, cs = f a ∧ ok a)
    (hv : Value.okWide P w .any b0 t v) (h : DataW.Trod enc P w 0 (fun _ => true) true t v d p) :
    ∃ (A : Option Addr) (n c : Nat) (l : List α), v = .slice A n c ∧ l.length = n ∧ n ≤ c ∧ c ≤ maxLen ∧ (A = none → n = 0 ∧ c = 0) ∧ Rd w w.heap.size A (l.flatMap f) ∧ ∀ a ∈ l, ok a := by
  obtain ⟨A, n, c, rfl⟩ := okWide_slice ht hv
  obtain ⟨fuel, hfu⟩ := h
  rcases Go.Deep.open_slice ht hfu with ⟨hcs, _⟩ | ⟨x, ln, cp, m, n', D, Pl, hcs, _, hl, hm, hmm, _, hi⟩
  · simp [Value.cells] at hcs
    obtain ⟨rfl, rfl, rfl⟩ := hcs
    exact ⟨none, 0, 0, [], rfl, rfl, Nat.le_refl _, by simp [maxLen], fun _ => ⟨rfl, rfl⟩, Rd.nil_ _ _ _, by simp⟩
  · simp [Value.cells] at hcs
    obtain ⟨rfl, rfl, rfl⟩ := hcs
    have hm' : m = c := by simpa using hmm
    subst hm'
    obtain ⟨l, hl1, hl2⟩ := list_of (Q := fun i a => (∀ r u, (f a)[r]? = some u → w.cell? ((x.add (i * P.cellsOf e)).add r) = some u) ∧ ok a) n (fun i hin => by
      obtain ⟨cs', hc, htr⟩ := hi i (by omega)
      obtain ⟨a, rfl, hok⟩ := he _ _ _ htr
      obtain ⟨_, _, hat⟩ := World.cells?_some hc
      refine ⟨a, fun r u hr => ?_, hok⟩
      have hlt : r < (f a).length := by
        rcases Nat.lt_or_ge r (f a).length with h1 | h1
        · exact h1
        · rw [List.getElem?_eq_none h1] at hr
          cases hr
      rw [hat r (by rw [← hf a]; exact hlt)]
      exact hr)
    refine ⟨some x, n, m, l, rfl, hl1, hl, hm, (fun h => by cases h), ?_, fun a ha => ?_⟩
    · intro j u hu
      obtain ⟨i, r, a, h1, h2, rfl⟩ := flat_get hf l j u hu
      have hc := (hl2 i a h1).1 r u h2
      rw [Go.Deep.add_add] at hc
      obtain ⟨b, off, spot⟩ := x
      have hspot : spot = none := by
        rcases Nat.eq_zero_or_pos m with h0 | h0
        · have hlt : i < l.length := by
            rcases Nat.lt_or_ge i l.length with h1' | h1'
            · exact h1'
            · rw [List.getElem?_eq_none h1'] at h1
              cases h1
          omega
        · obtain ⟨cs', hc0, htr⟩ := hi 0 h0
          obtain ⟨_, hlen, hat⟩ := World.cells?_some hc0
          have hpos : 0 < P.cellsOf e := by
            rcases Nat.eq_zero_or_pos (P.cellsOf e) with h9 | h9
            · rw [← hf a] at h9
              have : f a = [] := List.eq_nil_of_length_eq_zero h9
              rw [this] at h2
              simp at h2
            · exact h9
          have h9 := hat 0 hpos
          rw [List.getElem?_eq_getElem (show 0 < cs'.length by omega)] at h9
          simpa [Addr.add] using World.cell?_spot h9
      subst hspot
      rw [Addr.add_lit] at hc
      exact ⟨b, off, rfl, World.block_lt_of_cell? w _ hc, hc⟩
    · obtain ⟨i, hi2, hia⟩ := List.getElem_of_mem ha
      exact (hl2 i a (by rw [List.getElem?_eq_getElem hi2, hia])).2

/-- A field of a struct of one-cell fields. -/
theorem open_fields {e fuel : Nat} {fs : Array Field} {cs : List Value} {x : DataW H × List MemPlace} (he : P.underlying e = some (.struct fs)) (hone : Go.Deep.oneCellFields P fs = true) (hC : P.cellsOf e = fs.size)
    (h : DataW.trod enc P w 0 (fun _ => true) true fuel e cs = some x) :
    cs.length = fs.size ∧ ∀ (j : Nat) (f : Field), fs[j]? = some f → ∃ v m y, cs[j]? = some v ∧ DataW.trod enc P w 0 (fun _ => true) true m f.type [v] = some y := by
  obtain ⟨ys, n', hn', hy, hlen, hyl, hf⟩ := DataW.trod_struct he h
  refine ⟨by omega, fun j f hj => ?_⟩
  obtain ⟨ho, hk⟩ := Go.Deep.hone_of hone j f hj
  have hjl : j < fs.size := (Array.getElem?_eq_some_iff.1 hj).1
  have hv : cs[j]? = some (cs[j]'(by omega)) := List.getElem?_eq_getElem (by omega)
  have h1 := hf j f hj
  rw [ho, hk] at h1
  have hone' : (cs.drop j).take 1 = [cs[j]'(by omega)] := by
    rw [List.drop_eq_getElem_cons (by omega)]
    rfl
  rw [hone'] at h1
  have hys : ys[j]? = some (ys[j]'(by omega)) := List.getElem?_eq_getElem (by omega)
  exact ⟨_, _, _, hv, h1.trans hys⟩
/-- The form's reach: a slice's capacity. -/
theorem cap_reach {t e : TypeId} {A : Option Addr} {n c : Nat} {d : DataW H} {p : List MemPlace} {ts : List TypeId} {ds : List (DataW H)} {j : Nat} (ht : P.underlying t = some (.slice e)) (h : DataW.Trod enc P w 0 (fun _ => true) true t (.slice A n c) d p)
    (hsz : (DataW.weightsEach P ts ds).all (· ≤ reachBytes) = true) (hj : ts[j]? = some t) (hd : ds[j]? = some d) : c * P.bytesOf e ≤ 140737488351232 := by
  obtain ⟨fuel, hf⟩ := h
  rcases Go.Deep.open_slice ht hf with ⟨hcs, hx⟩ | ⟨a, len, cap, m, k, D, Pl, hcs, _, hl, hm, hmm, hx, _⟩
  · simp [Value.cells] at hcs
    obtain ⟨rfl, rfl, rfl⟩ := hcs
    simp
  · simp [Value.cells] at hcs
    obtain ⟨rfl, rfl, rfl⟩ := hcs
    have hm' : m = c := by simpa using hmm
    subst hm'
    injection hx with hx1 hx2
    subst hx1
    have := sized_slice hsz hj hd ht
    simp only [List.length_map, List.length_range, reachBytes] at this
    rw [show n + (m - n) = m by omega] at this
    exact this
/-- Bytes inside a struct. -/
theorem open_bt {t e : TypeId} (ht : P.underlying t = some (.slice e)) (he : P.underlying e = some (.int .u8)) (hC : P.cellsOf e = 1) {fuel : Nat} {v : Value} {x : DataW H × List MemPlace} (h : DataW.trod enc P w 0 (fun _ => true) true fuel t [v] = some x) :
    ∃ (A : Option Addr) (c : Nat) (l : List UInt8), v = .slice A l.length c ∧ l.length ≤ c ∧ c ≤ maxLen ∧ (A = none → l.length = 0 ∧ c = 0) ∧ Rd w w.heap.size A (vb l) := by
  rcases open_ints ht he hC h with ⟨hv, _⟩ | ⟨a, n, c, zs, hv, _, hl, hm, hz, _, hcell, hwz⟩
  · simp only [List.cons.injEq, and_true] at hv
    subst hv
    exact ⟨none, 0, [], rfl, Nat.le_refl _, by simp [maxLen], fun _ => ⟨rfl, rfl⟩, Rd.nil_ _ _ _⟩
  · simp only [List.cons.injEq, and_true] at hv
    subst hv
    have hz' : zs.length = c := by simpa using hz
    have hlen : ((zs.take n).map fun x => UInt8.ofNat x.toNat).length = n := by rw [List.length_map, List.length_take]; omega
    refine ⟨some a, c, (zs.take n).map fun x => UInt8.ofNat x.toNat, by rw [hlen], by rw [hlen]; exact hl, hm, (fun h => by cases h), ?_⟩
    have e : vb ((zs.take n).map fun x => UInt8.ofNat x.toNat) = vi .u8 (zs.take n) := by
      simp only [vb, vi, List.map_map]
      refine List.map_congr_left fun x hx => ?_
      have hb := wf_u8 (hwz x (List.mem_of_mem_take hx))
      have h2 : (UInt8.ofNat x.toNat).toNat = x.toNat := by simp; omega
      show Value.int .u8 ((UInt8.ofNat x.toNat).toNat : Int) = _
      rw [h2, Int.toNat_of_nonneg hb.1]
    rw [e]
    intro j u hu
    have hj : j < zs.length ∧ j < n := by
      simp only [vi, List.getElem?_map, List.getElem?_take] at hu
      split at hu
      · rename_i hjn
        omega
      · simp at hu
    have hc := hcell j hj.1
    obtain ⟨b, off, spot⟩ := a
    have hspot : spot = none := by
      have h0 := hcell 0 (by omega)
      simpa [Addr.add] using World.cell?_spot h0
    subst hspot
    rw [Addr.add_lit] at hc
    refine ⟨b, off, rfl, World.block_lt_of_cell? w _ hc, ?_⟩
    rw [hc]
    simp only [vi, List.getElem?_map, List.getElem?_take, if_pos hj.2] at hu
    rw [List.getD_eq_getElem?_getD, List.getElem?_eq_getElem hj.1] at *
    simpa using hu
end
end Go.Proofs.Ytcbngjpihcemiaa
