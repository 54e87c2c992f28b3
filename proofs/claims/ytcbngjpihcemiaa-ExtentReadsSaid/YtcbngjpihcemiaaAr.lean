/- What came in, on the ghost side: rows of bytes that are only read. Over any program. -/
import Derived.Test.YtcbngjpihcemiaaBs
import Derived.Test.YtcbngjpihcemiaaRo
import Derived.HandedShaped
namespace Go.Proofs.Ytcbngjpihcemiaa
open Go.RowKit Go.ChangeShapes Go.WideShapes Go.ChangeAt

section
variable {P : Program} {w : World} {μ : Ren} {H : Hp}
theorem cell_block {b o : Nat} {u : Value} (h : w.cell? ⟨b, o, none⟩ = some u) : ∃ rs t fz, w.heap[b]? = some (Obj.cells rs t fz) ∧ rs[o]? = some u := by
  unfold World.cell? at h
  simp only at h
  split at h
  · rename_i rs t fz hb
    exact ⟨rs, t, fz, hb, h⟩
  · cases h
/-- A row of cells that is only read, at a place. -/
theorem SimH.ro (hs : SimH μ H w) (hro : ∀ i c, H.at i = some c → c.rw = false) (cs rcs : List Value) (t : TypeId) (z b off S : Nat) (hne : cs ≠ []) (hv : VRs μ cs rcs) (h1 : ∀ v ∈ cs, v.oneCell' = true) (hr : ∀ j u, rcs[j]? = some u → w.cell? ⟨b, off + j, none⟩ = some u) : SimH (μ.upd H.length ⟨b, off, S, z⟩) (H.push ⟨t, z, cs, false⟩) w ∧ b < w.heap.size := by
  have he := hs.fresh ⟨b, off, S, z⟩
  obtain ⟨c0, cs0, rfl⟩ : ∃ c l, cs = c :: l := by cases cs with
    | nil => exact absurd rfl hne
    | cons c l => exact ⟨c, l, rfl⟩
  obtain ⟨u0, hu0, _⟩ := hv.get 0 c0 rfl
  obtain ⟨rs, bt, fz, hb, _⟩ := cell_block (hr 0 u0 hu0)
  have hlt : b < w.heap.size := real_lt hb
  have key : ∀ j c, (H.push ⟨t, z, c0 :: cs0, false⟩).at j = some c → (j < H.length ∧ H.at j = some c) ∨ (j = H.length ∧ c = ⟨t, z, c0 :: cs0, false⟩) := fun j c hc => by
    have hlt := Hp.at_lt hc
    rw [Hp.len_push] at hlt
    rcases Nat.lt_or_ge j H.length with h | h
    · rw [Hp.at_push_lt h] at hc
      exact .inl ⟨h, hc⟩
    · obtain rfl : j = H.length := by omega
      rw [Hp.at_push_eq] at hc
      injection hc with hc
      exact .inr ⟨rfl, hc.symm⟩
  refine ⟨⟨fun j c hc => ?_, fun j M hM => ?_, fun j k c c' M M' hj hk hM hM' hgg hrw => ?_⟩, hlt⟩
  · rcases key j c hc with ⟨hj, hc⟩ | ⟨rfl, rfl⟩
    · obtain ⟨M, rs', t', fz', q1, q2, q3, q4, q5, q6, q7⟩ := hs.dom j c hc
      exact ⟨M, rs', t', fz', he j M q1, q2, q3, q4, q5, q6.mono he, q7⟩
    · refine ⟨⟨b, off, S, z⟩, rs, bt, fz, Ren.upd_eq _ _ _, rfl, hb, (fun h => by cases h), (fun h => by cases h), fun k v hk => ?_, h1⟩
      obtain ⟨v', e1, e2⟩ := hv.get k v hk
      obtain ⟨rs2, bt2, fz2, hb2, hg2⟩ := cell_block (hr k v' e1)
      rw [hb] at hb2
      injection hb2 with hb2
      injection hb2 with hb2
      subst hb2
      exact ⟨v', hg2, e2.mono he⟩
  · rw [Hp.len_push]
    by_cases e : j = H.length
    · subst e
      rw [Ren.upd_eq] at hM
      injection hM with hM
      subst hM
      exact ⟨by omega, hlt⟩
    · rw [Ren.upd_ne _ _ e] at hM
      obtain ⟨q1, q2⟩ := hs.len j M hM
      exact ⟨by omega, q2⟩
  · have no : ∀ j c, (H.push ⟨t, z, c0 :: cs0, false⟩).at j = some c → c.rw = false := fun j c hc => by
      rcases key j c hc with ⟨_, hc⟩ | ⟨_, rfl⟩
      · exact hro j c hc
      · rfl
    rcases hrw with h | h
    · rw [no j c hj] at h; cases h
    · rw [no k c' hk] at h; cases h
/-- A ghost heap in which nothing may be written. -/
def Ro (H : Hp) : Prop := ∀ i c, H.at i = some c → c.rw = false
theorem Ro.push (h : Ro H) (t z : Nat) (cs : List Value) : Ro (H.push ⟨t, z, cs, false⟩) := fun i c hc => by
  have hlt := Hp.at_lt hc
  rw [Hp.len_push] at hlt
  rcases Nat.lt_or_ge i H.length with q | q
  · rw [Hp.at_push_lt q] at hc
    exact h i c hc
  · obtain rfl : i = H.length := by omega
    rw [Hp.at_push_eq] at hc
    injection hc with hc
    rw [← hc]
theorem Ro.nil : Ro [] := fun i c hc => by cases i <;> cases hc
theorem ro_ext (t z : Nat) (cs : List Value) : HExt [] H (H.push ⟨t, z, cs, false⟩) := (HExt.refl _ _).push
/-- A row of no cells, wherever. -/
theorem SimH.roE (hs : SimH μ H w) (hro : Ro H) (t z : Nat) {g : Nat} {rs : Array Value} {bt : TypeId} {fz : Nat × Nat} (hb : w.heap[g]? = some (.cells rs bt fz)) : SimH (μ.upd H.length ⟨g, 0, 0, z⟩) (H.push ⟨t, z, [], false⟩) w := by
  have he := hs.fresh ⟨g, 0, 0, z⟩
  have key : ∀ j c, (H.push ⟨t, z, [], false⟩).at j = some c → (j < H.length ∧ H.at j = some c) ∨ (j = H.length ∧ c = ⟨t, z, [], false⟩) := fun j c hc => by
    have hlt := Hp.at_lt hc
    rw [Hp.len_push] at hlt
    rcases Nat.lt_or_ge j H.length with h | h
    · rw [Hp.at_push_lt h] at hc
      exact .inl ⟨h, hc⟩
    · obtain rfl : j = H.length := by omega
      rw [Hp.at_push_eq] at hc
      injection hc with hc
      exact .inr ⟨rfl, hc.symm⟩
  have hlt : g < w.heap.size := real_lt hb
  refine ⟨fun j c hc => ?_, fun j M hM => ?_, fun j k c c' M M' hj hk hM hM' hgg hrw => ?_⟩
  · rcases key j c hc with ⟨hj, hc⟩ | ⟨rfl, rfl⟩
    · obtain ⟨M, rs', t', fz', q1, q2, q3, q4, q5, q6, q7⟩ := hs.dom j c hc
      exact ⟨M, rs', t', fz', he j M q1, q2, q3, q4, q5, q6.mono he, q7⟩
    · exact ⟨⟨g, 0, 0, z⟩, rs, bt, fz, Ren.upd_eq _ _ _, rfl, hb, (fun h => by cases h), (fun h => by cases h), (fun k v hk => by cases hk), (fun v hv => by cases hv)⟩
  · rw [Hp.len_push]
    by_cases e : j = H.length
    · subst e
      rw [Ren.upd_eq] at hM
      injection hM with hM
      subst hM
      exact ⟨by omega, hlt⟩
    · rw [Ren.upd_ne _ _ e] at hM
      obtain ⟨q1, q2⟩ := hs.len j M hM
      exact ⟨by omega, q2⟩
  · have hr := hro.push t z []
    rcases hrw with h | h
    · rw [hr j c hj] at h; cases h
    · rw [hr k c' hk] at h; cases h
/-- A slice of bytes that came in. -/
theorem SimH.bytes (hs : SimH μ H w) (hro : Ro H) (h0 : ∃ (g : Nat) (rs : Array Value) (t : TypeId) (fz : Nat × Nat), w.heap[g]? = some (Obj.cells rs t fz)) {A : Option Addr} {n c : Nat} {l : List UInt8} (hn : n ≤ c) (hm : c ≤ maxLen) (hA : A = none → n = 0 ∧ c = 0) (hr : Rd w w.heap.size A (vb l)) (hl : l.length = c) :
    ∃ μ' H' p, SimH μ' H' w ∧ Ro H' ∧ Ext' μ μ' ∧ HExt [] H H' ∧ BS H' (.slice p n c) (l.take n) ∧ VR μ' (.slice p n c) (.slice A n c) := by
  have hcap : c < capU := by unfold maxLen at hm; unfold capU; omega
  cases A with
  | none =>
    obtain ⟨rfl, rfl⟩ := hA rfl
    exact ⟨μ, H, none, hs, hro, Ext'.refl μ, HExt.refl _ _, .none, .sl0⟩
  | some a =>
    cases l with
    | nil =>
      obtain rfl : c = 0 := hl.symm
      obtain rfl : n = 0 := by omega
      obtain ⟨g, rs, t, fz, hg⟩ := h0
      have he := hs.fresh ⟨g, 0, 0, 1⟩
      refine ⟨_, _, some ⟨H.length, 0, none⟩, hs.roE hro 0 1 hg, hro.push 0 1 [], he, (HExt.refl _ _).push, ?_, .sl (L := ⟨g, 0, 0, 1⟩) (Ren.upd_eq _ _ _) (Nat.le_refl _) hm (fun _ => rfl) (fun h => by omega) (fun h => by omega)⟩
      exact .some (Hp.at_push_id rfl) rfl rfl (Nat.le_refl _) rfl
    | cons x l =>
      obtain ⟨b, off, e, hb, _⟩ := hr 0 (.int .u8 (x.toNat : Int)) rfl
      injection e with e
      subst e
      obtain ⟨h1, h2⟩ := hs.ro hro (vb (x :: l)) (vb (x :: l)) 0 1 b off 0 (by simp [vb]) (VRs.plain (vb_plain _)) (fun v hv => List.all_eq_true.1 (all_vb (x :: l)) v hv) (fun j u hu => by
        obtain ⟨b2, off2, e2, _, hc⟩ := hr j u hu
        injection e2 with e2
        injection e2 with e3 e4
        subst e3 e4
        exact hc)
      refine ⟨_, _, some ⟨H.length, 0, none⟩, h1, hro.push _ _ _, hs.fresh _, (HExt.refl _ _).push, ?_, .sl (L := ⟨b, off, 0, 1⟩) (Ren.upd_eq _ _ _) hn hm (fun _ => rfl) (fun h => by omega) (fun _ => rfl)⟩
      exact .some (Hp.at_push_id rfl) (by rw [List.drop_zero, vb_take]) (by rw [List.length_take]; omega) (by rw [vb_length]; omega) (allU8_vb _)
theorem shaped_cells (hs : w.ShapedOpen P) (hk : (match (begin P (fun _ _ => 0) default).world.heap[P.globals.size]? with | some (Obj.cells _ _ _) => true | _ => false) = true) : ∃ (g : Nat) (rs : Array Value) (t : TypeId) (fz : Nat × Nat), w.heap[g]? = some (Obj.cells rs t fz) := by
  split at hk
  · rename_i rs t fz hb
    have hlt : P.globals.size < (begin P (fun _ _ => 0) default).world.heap.size := (Array.getElem?_eq_some_iff.1 hb).1
    obtain ⟨o, o0, h1, h2, h3⟩ := hs.2 P.globals.size (Nat.le_refl _) hlt
    rw [hb] at h2
    injection h2 with h2
    subst h2
    rw [Nat.sub_self] at h3
    have h3 : o = .cells rs t fz := by simpa [World.looseAt] using h3
    subst h3
    exact ⟨_, _, _, _, h1⟩
  · cases hk
/-- A call met in the real world. -/
theorem GCalls.enter {f : FuncId} {args : List Value} {R : Value → Prop} (h : GCalls P f args [] H (fun u _ => R u)) (hs : SimH μ H w) {rargs : Array Value} (hv : VRs μ args rargs.toList) (hp : ∀ v, R v → plainB v = true) : Calls P f rargs w (fun e w' => ∃ v, e = .returned v ∧ R v ∧ Below w.heap.size w w') := by
  refine (h μ w rargs hs hv).mono ?_
  rintro e w' ⟨v, rv, H', μ', rfl, k2, k3, _, _, k6, _⟩
  have hi : img μ [] = [] := rfl
  rw [hi] at k6
  obtain rfl := k3.plain_eq (hp v k2)
  exact ⟨rv, rfl, k2, k6.below (fun g hg => by cases hg) (Nat.le_refl _)⟩
end
section
variable {X : Type} {enc : TypeId × Value → X} {P : Program} {w : World}
/-- Bytes inside a struct, with the cells up to the capacity. -/
theorem open_btC {t e : TypeId} (ht : P.underlying t = some (.slice e)) (he : P.underlying e = some (.int .u8)) (hC : P.cellsOf e = 1) {fuel : Nat} {v : Value} {x : DataW X × List MemPlace} (h : DataW.trod enc P w 0 (fun _ => true) true fuel t [v] = some x) :
    ∃ (A : Option Addr) (n c : Nat) (l : List UInt8), v = .slice A n c ∧ n ≤ c ∧ c ≤ maxLen ∧ (A = none → n = 0 ∧ c = 0) ∧ Rd w w.heap.size A (vb l) ∧ l.length = c := by
  rcases open_ints ht he hC h with ⟨hv, _⟩ | ⟨a, n, c, zs, hv, _, hl, hm, hz, _, hcell, hwz⟩
  · simp only [List.cons.injEq, and_true] at hv
    subst hv
    exact ⟨none, 0, 0, [], rfl, Nat.le_refl _, by simp [maxLen], fun _ => ⟨rfl, rfl⟩, Rd.nil_ _ _ _, rfl⟩
  · simp only [List.cons.injEq, and_true] at hv
    subst hv
    have hz' : zs.length = c := by simpa using hz
    refine ⟨some a, n, c, zs.map fun x => UInt8.ofNat x.toNat, rfl, hl, hm, (fun h => by cases h), ?_, by simpa using hz'⟩
    have e : vb (zs.map fun x => UInt8.ofNat x.toNat) = vi .u8 zs := by
      simp only [vb, vi, List.map_map]
      refine List.map_congr_left fun x hx => ?_
      have hb := wf_u8 (hwz x hx)
      have h2 : (UInt8.ofNat x.toNat).toNat = x.toNat := by simp; omega
      show Value.int .u8 ((UInt8.ofNat x.toNat).toNat : Int) = _
      rw [h2, Int.toNat_of_nonneg hb.1]
    rw [e]
    intro j u hu
    have hj : j < zs.length := by
      simp only [vi, List.getElem?_map] at hu
      rcases Nat.lt_or_ge j zs.length with q | q
      · exact q
      · rw [List.getElem?_eq_none q] at hu
        cases hu
    have hc := hcell j hj
    obtain ⟨b, off, spot⟩ := a
    have hspot : spot = none := by
      have h0 := hcell 0 (by omega)
      simpa [Addr.add] using World.cell?_spot h0
    subst hspot
    rw [Addr.add_lit] at hc
    refine ⟨b, off, rfl, World.block_lt_of_cell? w _ hc, ?_⟩
    rw [hc]
    simp only [vi, List.getElem?_map] at hu
    rw [List.getD_eq_getElem?_getD]
    rw [List.getElem?_eq_getElem hj] at hu ⊢
    simpa using hu
theorem trod_cs {t fuel : Nat} {cs : List Value} (cs' : List Value) (e : cs' = cs) {x : DataW X × List MemPlace} (h : DataW.trod enc P w 0 (fun _ => true) true fuel t cs = some x) : DataW.trod enc P w 0 (fun _ => true) true fuel t cs' = some x := by
  rw [e]
  exact h
/-- A field of a struct, by its place. -/
theorem open_struct {e fuel : Nat} {fs : Array Field} {cs : List Value} {x : DataW X × List MemPlace} (he : P.underlying e = some (.struct fs)) (h : DataW.trod enc P w 0 (fun _ => true) true fuel e cs = some x) :
    cs.length = P.cellsOf e ∧ ∀ (j : Nat) (f : Field), fs[j]? = some f → ∃ m y, DataW.trod enc P w 0 (fun _ => true) true m f.type ((cs.drop f.offset).take (P.cellsOf f.type)) = some y := by
  obtain ⟨ys, n', hn', hy, hlen, hyl, hf⟩ := DataW.trod_struct he h
  refine ⟨hlen, fun j f hj => ?_⟩
  have hjl : j < fs.size := (Array.getElem?_eq_some_iff.1 hj).1
  have h1 := hf j f hj
  have hys : ys[j]? = some (ys[j]'(by omega)) := List.getElem?_eq_getElem (by omega)
  exact ⟨_, _, h1.trans hys⟩
end
end Go.Proofs.Ytcbngjpihcemiaa
