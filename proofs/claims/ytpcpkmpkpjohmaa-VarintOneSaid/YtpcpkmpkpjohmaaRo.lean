/- What came in, opened for a walk: a slice of bytes, of whole numbers; over any program. -/
import Derived.Test.YtpcpkmpkpjohmaaWd
import Derived.ProofKit
import Derived.OpenShut
import Derived.ShutString
import Derived.ChangeOld
namespace Go.Proofs.Ytpcpkmpkpjohmaa
open Go.RowKit Go.ChangeShapes Go.WideShapes Go.ChangeAt

section
variable {H : Type} {enc : TypeId × Value → H} {P : Program} {w : World}

/-- Whole numbers of a kind as cells. -/
def vi (k : IntKind) (l : List Int) : List Value := l.map fun n => .int k n

theorem open_nums {t e : TypeId} {k : IntKind} {b0 : Nat} {v : Value} {d : DataW H} {p : List MemPlace} (ht : P.underlying t = some (.slice e)) (he : P.underlying e = some (.int k)) (hC : P.cellsOf e = 1)
    (hv : Value.okWide P w .any b0 t v) (h : DataW.Trod enc P w 0 (fun _ => true) true t v d p) :
    ∃ (A : Option Addr) (n c : Nat) (l : List Int), v = .slice A n c ∧ l.length = n ∧ n ≤ c ∧ c ≤ maxLen ∧ (A = none → n = 0 ∧ c = 0) ∧ Rd w w.heap.size A (vi k l) ∧ ∀ x ∈ l, (Lit.int k x).wf = true := by
  obtain ⟨A, n, c, rfl⟩ := okWide_slice ht hv
  have hk := h
  have hlt : ∀ x ∈ p, x.block < w.heap.size := by obtain ⟨m, hm⟩ := hk; exact DataW.trod_lt m _ _ _ hm
  obtain ⟨fuel, hf⟩ := h
  rcases open_ints ht he hC hf with ⟨hcs, _⟩ | ⟨x, ln, cp, zs, hcs, _, hl, hm, hz, hx, hcell, hwz⟩
  · simp [Value.cells] at hcs
    obtain ⟨rfl, rfl, rfl⟩ := hcs
    exact ⟨none, 0, 0, [], rfl, rfl, Nat.le_refl _, by simp [maxLen], fun _ => ⟨rfl, rfl⟩, Rd.nil_ _ _ _, by simp⟩
  · simp [Value.cells] at hcs
    obtain ⟨rfl, rfl, rfl⟩ := hcs
    have hz' : zs.length = c := by simpa using hz
    refine ⟨some x, n, c, zs.take n, rfl, by rw [List.length_take]; omega, hl, hm, (fun h => by cases h), ?_, fun y hy => hwz y (List.mem_of_mem_take hy)⟩
    intro j u hu
    have hj : j < zs.length := by
      simp only [vi, List.getElem?_map, List.getElem?_take] at hu
      split at hu
      · rename_i hjn
        omega
      · simp at hu
    have hc := hcell j hj
    obtain ⟨b, off, spot⟩ := x
    have hspot : spot = none := by
      have h0 := hcell 0 (by omega)
      simpa [Addr.add] using World.cell?_spot h0
    subst hspot
    refine ⟨b, off, rfl, ?_, ?_⟩
    · rw [Addr.add_lit] at hc
      exact World.block_lt_of_cell? w _ hc
    · rw [Addr.add_lit] at hc
      rw [hc]
      simp only [vi, List.getElem?_map, List.getElem?_take] at hu
      split at hu
      · rw [List.getD_eq_getElem?_getD]
        rw [List.getElem?_eq_getElem hj] at hu ⊢
        simpa using hu
      · simp at hu

theorem wf_u8 {x : Int} (h : (Lit.int .u8 x).wf = true) : 0 ≤ x ∧ x < 256 := by
  have := bounds_u8 h
  omega

theorem open_bytes {t e : TypeId} {b0 : Nat} {v : Value} {d : DataW H} {p : List MemPlace} (ht : P.underlying t = some (.slice e)) (he : P.underlying e = some (.int .u8)) (hC : P.cellsOf e = 1)
    (hv : Value.okWide P w .any b0 t v) (h : DataW.Trod enc P w 0 (fun _ => true) true t v d p) :
    ∃ (A : Option Addr) (n c : Nat) (l : List UInt8), v = .slice A n c ∧ l.length = n ∧ n ≤ c ∧ c ≤ maxLen ∧ (A = none → n = 0 ∧ c = 0) ∧ Rd w w.heap.size A (vb l) := by
  obtain ⟨A, n, c, zs, hv', hl, hn, hm, hA, hr, hw⟩ := open_nums ht he hC hv h
  refine ⟨A, n, c, zs.map fun x => UInt8.ofNat x.toNat, hv', by simpa using hl, hn, hm, hA, ?_⟩
  have e : vb (zs.map fun x => UInt8.ofNat x.toNat) = vi .u8 zs := by
    simp only [vb, vi, List.map_map]
    refine List.map_congr_left fun x hx => ?_
    have hb := wf_u8 (hw x hx)
    have h2 : (UInt8.ofNat x.toNat).toNat = x.toNat := by simp; omega
    show Value.int .u8 ((UInt8.ofNat x.toNat).toNat : Int) = _
    rw [h2, Int.toNat_of_nonneg hb.1]
  rw [e]
  exact hr
end
end Go.Proofs.Ytpcpkmpkpjohmaa
