/- A slice that comes in, of which only the length counts: over any program. -/
import Derived.Test.YtcbngjpihcemiaaIk
import Derived.Test.YtcbngjpihcemiaaRo
import Derived.HandedShaped
namespace Go.Proofs.Ytcbngjpihcemiaa
open Go.RowKit Go.ChangeShapes Go.WideShapes Go.ChangeAt

section
variable {X : Type} {enc : TypeId × Value → X} {P : Program} {w : World}
/-- The same as open_bytes, with the cells up to the capacity. -/
theorem open_bytesC {t e : TypeId} {b0 : Nat} {v : Value} {d : DataW X} {p : List MemPlace} (ht : P.underlying t = some (.slice e)) (he : P.underlying e = some (.int .u8)) (hC : P.cellsOf e = 1)
    (hv : Value.okWide P w .any b0 t v) (h : DataW.Trod enc P w 0 (fun _ => true) true t v d p) :
    ∃ (A : Option Addr) (n c : Nat) (l : List UInt8), v = .slice A n c ∧ l.length = c ∧ n ≤ c ∧ c ≤ maxLen ∧ (A = none → n = 0 ∧ c = 0) ∧ Rd w w.heap.size A (vb l) := by
  obtain ⟨A, n, c, rfl⟩ := okWide_slice ht hv
  obtain ⟨fuel, hf⟩ := h
  rcases open_ints ht he hC hf with ⟨hcs, _⟩ | ⟨x, ln, cp, zs, hcs, _, hl, hm, hz, hx, hcell, hwz⟩
  · simp [Value.cells] at hcs
    obtain ⟨rfl, rfl, rfl⟩ := hcs
    exact ⟨none, 0, 0, [], rfl, rfl, Nat.le_refl _, by simp [maxLen], fun _ => ⟨rfl, rfl⟩, Rd.nil_ _ _ _⟩
  · simp [Value.cells] at hcs
    obtain ⟨rfl, rfl, rfl⟩ := hcs
    have hz' : zs.length = c := by simpa using hz
    refine ⟨some x, n, c, zs.map fun x => UInt8.ofNat x.toNat, rfl, by simpa using hz', hl, hm, (fun h => by cases h), ?_⟩
    have e : vb (zs.map fun x => UInt8.ofNat x.toNat) = vi .u8 zs := by
      simp only [vb, vi, List.map_map]
      refine List.map_congr_left fun x hx => ?_
      have hb := wf_u8 (hwz x hx)
      have h2 : (UInt8.ofNat x.toNat).toNat = x.toNat := by simp; omega
      show Value.int .u8 ((UInt8.ofNat x.toNat).toNat : Int) = _
      rw [h2, Int.toNat_of_nonneg hb.1]
    rw [e]
    intro j u hu
    have hj : j < zs.length := by
      simp only [vi, List.getElem?_map] at hu
      rcases Nat.lt_or_ge j zs.length with q | q
      · exact q
      · rw [List.getElem?_eq_none q] at hu
        cases hu
    have hc := hcell j hj
    obtain ⟨b, off, spot⟩ := x
    have hspot : spot = none := by
      have h0 := hcell 0 (by omega)
      simpa [Addr.add] using World.cell?_spot h0
    subst hspot
    refine ⟨b, off, rfl, ?_, ?_⟩
    · rw [Addr.add_lit] at hc
      exact World.block_lt_of_cell? w _ hc
    · rw [Addr.add_lit] at hc
      rw [hc]
      simp only [vi, List.getElem?_map] at hu
      rw [List.getD_eq_getElem?_getD]
      rw [List.getElem?_eq_getElem hj] at hu ⊢
      simpa using hu
theorem shaped_pos (hs : w.ShapedOpen P) (hk : Nat.blt P.globals.size (begin P (fun _ _ => 0) default).world.heap.size = true) : 0 < w.heap.size := by
  rw [Nat.blt_eq] at hk
  obtain ⟨o, _, h, _⟩ := hs.2 P.globals.size (Nat.le_refl _) hk
  rcases Nat.lt_or_ge P.globals.size w.heap.size with q | q
  · omega
  · rw [Array.getElem?_eq_none q] at h
    cases h
/-- A slice as it came in, on the ghost side. -/
theorem slice_in {A : Option Addr} {n c : Nat} {l : List UInt8} (h0 : 0 < w.heap.size) (hl : l.length = c) (hn : n ≤ c) (hm : c ≤ maxLen) (hA : A = none → n = 0 ∧ c = 0) (hr : Rd w w.heap.size A (vb l)) :
    ∃ μ p, (p = none ∨ p = some ⟨0, 0, none⟩) ∧ SimH μ [none] w ∧ VR μ (.slice p n c) (.slice A n c) := by
  have hcap : c < capU := by unfold maxLen at hm; unfold capU; omega
  have sim : ∀ L : Loc, L.g < w.heap.size → SimH (fun i => if i = 0 then some L else none) [none] w := fun L hL => by
    have no : ∀ i (b : Blk), Hp.at [none] i = some b → False := fun i b hb => by
      match i with
      | 0 => cases hb
      | i + 1 => simp [Hp.at] at hb
    refine ⟨fun i b hb => (no i b hb).elim, fun i M hM => ?_, fun i j b b' M M' hi => (no i b hi).elim⟩
    split at hM
    · injection hM with hM
      subst hM
      exact ⟨by simp; omega, hL⟩
    · cases hM
  cases A with
  | none =>
    obtain ⟨rfl, rfl⟩ := hA rfl
    refine ⟨fun _ => none, none, .inl rfl, ⟨fun i b hb => ?_, fun i L h => (by cases h), fun i j b b' L L' _ _ h => (by cases h)⟩, .sl0⟩
    match i with
    | 0 => cases hb
    | i + 1 => simp [Hp.at] at hb
  | some a =>
    rcases Nat.eq_zero_or_pos c with hc | hc
    · exact ⟨_, some ⟨0, 0, none⟩, .inr rfl, sim ⟨0, 0, 0, 0⟩ h0, .sl (L := ⟨0, 0, 0, 0⟩) rfl hn hm (fun _ => rfl) (fun h => by omega) (fun h => by omega)⟩
    · obtain ⟨b, off, e, hb, _⟩ := hr 0 ((vb l)[0]'(by simp; omega)) (List.getElem?_eq_getElem _)
      injection e with e
      subst e
      exact ⟨_, some ⟨0, 0, none⟩, .inr rfl, sim ⟨b, off, 0, 0⟩ hb, .sl (L := ⟨b, off, 0, 0⟩) rfl hn hm (fun _ => rfl) (fun h => by omega) (fun _ => rfl)⟩
/-- A call with plain values and such a slice. -/
theorem call_slice {f : FuncId} {A : Option Addr} {n c : Nat} {l : List UInt8} {pre post : List Value} {R : Value → Prop} (h0 : 0 < w.heap.size) (hl : l.length = c) (hn : n ≤ c) (hm : c ≤ maxLen) (hA : A = none → n = 0 ∧ c = 0) (hr : Rd w w.heap.size A (vb l))
    (h : ∀ p, (p = none ∨ p = some ⟨0, 0, none⟩) → GCalls P f (pre ++ .slice p n c :: post) [] [none] (fun u _ => R u)) (hp : ∀ v, R v → plainB v = true) (ha : ∀ v ∈ pre ++ post, plainB v = true) : Calls P f (pre ++ .slice A n c :: post).toArray w (fun e w' => ∃ v, e = .returned v ∧ R v ∧ Below w.heap.size w w') := by
  obtain ⟨μ, p, q1, q2, q3⟩ := slice_in h0 hl hn hm hA hr
  refine (h p q1 μ w _ q2 (by simpa using (VRs.plain fun v hv => ha v (List.mem_append_left _ hv)).append (.cons q3 (VRs.plain fun v hv => ha v (List.mem_append_right _ hv))))).mono ?_
  rintro e w' ⟨v, rv, H', μ', rfl, k2, k3, _, _, k6, _⟩
  have hi : img μ [] = [] := rfl
  rw [hi] at k6
  obtain rfl := k3.plain_eq (hp v k2)
  exact ⟨rv, rfl, k2, k6.below (fun g hg => by cases hg) (Nat.le_refl _)⟩
end
end Go.Proofs.Ytcbngjpihcemiaa
