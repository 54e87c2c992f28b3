/- What came in, on the ghost side: rows of bytes that are only read. Over any program. -/
import Derived.Test.YtjoblmdfbddkeaaDoorZz2
import Derived.Test.YtjoblmdfbddkeaaDoorZz0
import Derived.HandedShaped
import Derived.Test.YtjoblmdfbddkeaaDoorZz3
namespace Go.Proofs.YtjoblmdfbddkeaaDoor
open Go.RowKit Go.ChangeShapes Go.WideShapes Go.ChangeAt

section
variable {P : Program} {w : World} {μ : Ren} {H : Hp}
theorem cell_block {b o : Nat} {u : Value} (h : w.cell? ⟨b, o, none⟩ = some u) : ∃ rs t fz, w.heap[b]? = some (Obj.cells rs t fz) ∧ rs[o]? = some u := by
  unfold World.cell? at h
  simp only at h
  split at h
  · rename_i rs t fz hb
    exact ⟨rs, t, fz, hb, h⟩
  · cases h
/-- A row of cells that is only read, at a place. -/
theorem SimH.ro (hs : SimH μ H w) (hro : ∀ i c, H.at i = some c → c.rw = false) (cs rcs : List Value) (t : TypeId) (z b off S : Nat) (hne : cs ≠ []) (hv : VRs μ cs rcs) (h1 : ∀ v ∈ cs, v.oneCell' = true) (hr : ∀ j u, rcs[j]? = some u → w.cell? ⟨b, off + j, none⟩ = some u) : SimH (μ.upd H.length ⟨b, off, S, z⟩) (H.push ⟨t, z, cs, false⟩) w ∧ b < w.heap.size := by
  have he := hs.fresh ⟨b, off, S, z⟩
  obtain ⟨c0, cs0, rfl⟩ : ∃ c l, cs = c :: l := by cases cs with
    | nil => exact absurd rfl hne
    | cons c l => exact ⟨c, l, rfl⟩
  obtain ⟨u0, hu0, _⟩ := hv.get 0 c0 rfl
  obtain ⟨rs, bt, fz, hb, _⟩ := cell_block (hr 0 u0 hu0)
  have hlt : b < w.heap.size := real_lt hb
  have key : ∀ j c, (H.push ⟨t, z, c0 :: cs0, false⟩).at j = some c → (j < H.length ∧ H.at j = some c) ∨ (j = H.length ∧ c = ⟨t, z, c0 :: cs0, false⟩) := fun j c hc => by
    have hlt := Hp.at_lt hc
    rw [Hp.len_push] at hlt
    rcases Nat.lt_or_ge j H.length with h | h
    · rw [Hp.at_push_lt h] at hc
      exact .inl ⟨h, hc⟩
    · obtain rfl : j = H.length := by omega
      rw [Hp.at_push_eq] at hc
      injection hc with hc
      exact .inr ⟨rfl, hc.symm⟩
  refine ⟨⟨fun j c hc => ?_, fun j M hM => ?_, fun j k c c' M M' hj hk hM hM' hgg hrw => ?_⟩, hlt⟩
  · rcases key j c hc with ⟨hj, hc⟩ | ⟨rfl, rfl⟩
    · obtain ⟨M, rs', t', fz', q1, q2, q3, q4, q5, q6, q7⟩ := hs.dom j c hc
      exact ⟨M, rs', t', fz', he j M q1, q2, q3, q4, q5, q6.mono he, q7⟩
    · refine ⟨⟨b, off, S, z⟩, rs, bt, fz, Ren.upd_eq _ _ _, rfl, hb, (fun h => by cases h), (fun h => by cases h), fun k v hk => ?_, h1⟩
      obtain ⟨v', e1, e2⟩ := hv.get k v hk
      obtain ⟨rs2, bt2, fz2, hb2, hg2⟩ := cell_block (hr k v' e1)
      rw [hb] at hb2
      injection hb2 with hb2
      injection hb2 with hb2
      subst hb2
      exact ⟨v', hg2, e2.mono he⟩
  · rw [Hp.len_push]
    by_cases e : j = H.length
    · subst e
      rw [Ren.upd_eq] at hM
      injection hM with hM
      subst hM
      exact ⟨by omega, hlt⟩
    · rw [Ren.upd_ne _ _ e] at hM
      obtain ⟨q1, q2⟩ := hs.len j M hM
      exact ⟨by omega, q2⟩
  · have no : ∀ j c, (H.push ⟨t, z, c0 :: cs0, false⟩).at j = some c → c.rw = false := fun j c hc => by
      rcases key j c hc with ⟨_, hc⟩ | ⟨_, rfl⟩
      · exact hro j c hc
      · rfl
    rcases hrw with h | h
    · rw [no j c hj] at h; cases h
    · rw [no k c' hk] at h; cases h
/-- A ghost heap in which nothing may be written. -/
def Ro (H : Hp) : Prop := ∀ i c, H.at i = some c → c.rw = false
theorem Ro.push (h : Ro H) (t z : Nat) (cs : List Value) : Ro (H.push ⟨t, z, cs, false⟩) := fun i c hc => by
  have hlt := Hp.at_lt hc
  rw [Hp.len_push] at hlt
  rcases Nat.lt_or_ge i H.length with q | q
  · rw [Hp.at_push_lt q] at hc
    exact h i c hc
  · obtain rfl : i = H.length := by omega
    rw [Hp.at_push_eq] at hc
    injection hc with hc
    rw [← hc]
theorem Ro.nil : Ro [] := fun i c hc => by cases i <;> cases hc
theorem ro_ext (t z : Nat) (cs : List Value) : HExt [] H (H.push ⟨t, z, cs, false⟩) := (HExt.refl _ _).push
/-- A row of no cells, wherever. -/
theorem SimH.roE (hs : SimH μ H w) (hro : Ro H) (t z : Nat) {g : Nat} {rs : Array Value} {bt : TypeId} {fz : Nat × Nat} (hb : w.heap[g]? = some (.cells rs bt fz)) : SimH (μ.upd H.length ⟨g, 0, 0, z⟩) (H.push ⟨t, z, [], false⟩) w := by
  have he := hs.fresh ⟨g, 0, 0, z⟩
  have key : ∀ j c, (H.push ⟨t, z, [], false⟩).at j = some c → (j < H.length ∧ H.at j = some c) ∨ (j = H.length ∧ c = ⟨t, z, [], false⟩) := fun j c hc => by
    have hlt := Hp.at_lt hc
    rw [Hp.len_push] at hlt
    rcases Nat.lt_or_ge j H.length with h | h
    · rw [Hp.at_push_lt h] at hc
      exact .inl ⟨h, hc⟩
    · obtain rfl : j = H.length := by omega
      rw [Hp.at_push_eq] at hc
      injection hc with hc
      exact .inr ⟨rfl, hc.symm⟩
  have hlt : g < w.heap.size := real_lt hb
  refine ⟨fun j c hc => ?_, fun j M hM => ?_, fun j k c c' M M' hj hk hM hM' hgg hrw => ?_⟩
  · rcases key j c hc with ⟨hj, hc⟩ | ⟨rfl, rfl⟩
    · obtain ⟨M, rs', t', fz', q1, q2, q3, q4, q5, q6, q7⟩ := hs.dom j c hc
      exact ⟨M, rs', t', fz', he j M q1, q2, q3, q4, q5, q6.mono he, q7⟩
    · exact ⟨⟨g, 0, 0, z⟩, rs, bt, fz, Ren.upd_eq _ _ _, rfl, hb, (fun h => by cases h), (fun h => by cases h), (fun k v hk => by cases hk), (fun v hv => by cases hv)⟩
  · rw [Hp.len_push]
    by_cases e : j = H.length
    · subst e
      rw [Ren.upd_eq] at hM
      injection hM with hM
      subst hM
      exact ⟨by omega, hlt⟩
    · rw [Ren.upd_ne _ _ e] at hM
      obtain ⟨q1, q2⟩ := hs.len j M hM
      exact ⟨by omega, q2⟩
  · have hr := hro.push t z []
    rcases hrw with h | h
    · rw [hr j c hj] at h; cases h
    · rw [hr k c' hk] at h; cases h
/-- A slice of bytes that came in. -/
theorem SimH.bytes (hs : SimH μ H w) (hro : Ro H) (h0 : ∃ (g : Nat) (rs : Array Value) (t : TypeId) (fz : Nat × Nat), w.heap[g]? = some (Obj.cells rs t fz)) {A : Option Addr} {n c : Nat} {l : List UInt8} (hn : n ≤ c) (hm : c ≤ maxLen) (hA : A = none → n = 0 ∧ c = 0) (hr : Rd w w.heap.size A (vb l)) (hl : l.length = c) :
    ∃ μ' H' p, SimH μ' H' w ∧ Ro H' ∧ Ext' μ μ' ∧ HExt [] H H' ∧ BS H' (.slice p n c) (l.take n) ∧ VR μ' (.slice p n c) (.slice A n c) := by
  have hcap : c < capU := by unfold maxLen at hm; unfold capU; omega
  cases A with
  | none =>
    obtain ⟨rfl, rfl⟩ := hA rfl
    exact ⟨μ, H, none, hs, hro, Ext'.refl μ, HExt.refl _ _, .none, .sl0⟩
  | some a =>
    cases l with
    | nil =>
      obtain rfl : c = 0 := hl.symm
      obtain rfl : n = 0 := by omega
      obtain ⟨g, rs, t, fz, hg⟩ := h0
      have he := hs.fresh ⟨g, 0, 0, 1⟩
      refine ⟨_, _, some ⟨H.length, 0, none⟩, hs.roE hro 0 1 hg, hro.push 0 1 [], he, (HExt.refl _ _).push, ?_, .sl (L := ⟨g, 0, 0, 1⟩) (Ren.upd_eq _ _ _) (Nat.le_refl _) hm (fun _ => rfl) (fun h => by omega) (fun h => by omega)⟩
      exact .some (Hp.at_push_id rfl) rfl rfl (Nat.le_refl _) rfl
    | cons x l =>
      obtain ⟨b, off, e, hb, _⟩ := hr 0 (.int .u8 (x.toNat : Int)) rfl
      injection e with e
      subst e
      obtain ⟨h1, h2⟩ := hs.ro hro (vb (x :: l)) (vb (x :: l)) 0 1 b off 0 (by simp [vb]) (VRs.plain (vb_plain _)) (fun v hv => List.all_eq_true.1 (all_vb (x :: l)) v hv) (fun j u hu => by
        obtain ⟨b2, off2, e2, _, hc⟩ := hr j u hu
        injection e2 with e2
        injection e2 with e3 e4
        subst e3 e4
        exact hc)
      refine ⟨_, _, some ⟨H.length, 0, none⟩, h1, hro.push _ _ _, hs.fresh _, (HExt.refl _ _).push, ?_, .sl (L := ⟨b, off, 0, 1⟩) (Ren.upd_eq _ _ _) hn hm (fun _ => rfl) (fun h => by omega) (fun _ => rfl)⟩
      exact .some (Hp.at_push_id rfl) (by rw [List.drop_zero, vb_take]) (by rw [List.length_take]; omega) (by rw [vb_length]; omega) (allU8_vb _)
theorem shaped_cells (hs : w.ShapedOpen P) (hk : (match (begin P (fun _ _ => 0) default).world.heap[P.globals.size]? with | some (Obj.cells _ _ _) => true | _ => false) = true) : ∃ (g : Nat) (rs : Array Value) (t : TypeId) (fz : Nat × Nat), w.heap[g]? = some (Obj.cells rs t fz) := by
  split at hk
  · rename_i rs t fz hb
    have hlt : P.globals.size < (begin P (fun _ _ => 0) default).world.heap.size := (Array.getElem?_eq_some_iff.1 hb).1
    obtain ⟨o, o0, h1, h2, h3⟩ := hs.2 P.globals.size (Nat.le_refl _) hlt
    rw [hb] at h2
    injection h2 with h2
    subst h2
    rw [Nat.sub_self] at h3
    have h3 : o = .cells rs t fz := by simpa [World.looseAt] using h3
    subst h3
    exact ⟨_, _, _, _, h1⟩
  · cases hk
/-- A call met in the real world. -/
theorem GCalls.enter {f : FuncId} {args : List Value} {R : Value → Prop} (h : GCalls P f args [] H (fun u _ => R u)) (hs : SimH μ H w) {rargs : Array Value} (hv : VRs μ args rargs.toList) (hp : ∀ v, R v → plainB v = true) : Calls P f rargs w (fun e w' => ∃ v, e = .returned v ∧ R v ∧ Below w.heap.size w w') := by
  refine (h μ w rargs hs hv).mono ?_
  rintro e w' ⟨v, rv, H', μ', rfl, k2, k3, _, _, k6, _⟩
  have hi : img μ [] = [] := rfl
  rw [hi] at k6
  obtain rfl := k3.plain_eq (hp v k2)
  exact ⟨rv, rfl, k2, k6.below (fun g hg => by cases hg) (Nat.le_refl _)⟩
end
section
variable {X : Type} {enc : TypeId × Value → X} {P : Program} {w : World}
/-- Bytes inside a struct, with the cells up to the capacity. -/
theorem open_btC {t e : TypeId} (ht : P.underlying t = some (.slice e)) (he : P.underlying e = some (.int .u8)) (hC : P.cellsOf e = 1) {fuel : Nat} {v : Value} {x : DataW X × List MemPlace} (h : DataW.trod enc P w 0 (fun _ => true) true fuel t [v] = some x) :
    ∃ (A : Option Addr) (n c : Nat) (l : List UInt8), v = .slice A n c ∧ n ≤ c ∧ c ≤ maxLen ∧ (A = none → n = 0 ∧ c = 0) ∧ Rd w w.heap.size A (vb l) ∧ l.length = c := by
  rcases open_ints ht he hC h with ⟨hv, _⟩ | ⟨a, n, c, zs, hv, _, hl, hm, hz, _, hcell, hwz⟩
  · simp only [List.cons.injEq, and_true] at hv
    subst hv
    exact ⟨none, 0, 0, [], rfl, Nat.le_refl _, by simp [maxLen], fun _ => ⟨rfl, rfl⟩, Rd.nil_ _ _ _, rfl⟩
  · simp only [List.cons.injEq, and_true] at hv
    subst hv
    have hz' : zs.length = c := by simpa using hz
    refine ⟨some a, n, c, zs.map fun x => UInt8.ofNat x.toNat, rfl, hl, hm, (fun h => by cases h), ?_, by simpa using hz'⟩
    have e : vb (zs.map fun x => UInt8.ofNat x.toNat) = vi .u8 zs := by
      simp only [vb, vi, List.map_map]
      refine List.map_congr_left fun x hx => ?_
      have hb := wf_u8 (hwz x hx)
      have h2 : (UInt8.ofNat x.toNat).toNat = x.toNat := by simp; omega
      show Value.int .u8 ((UInt8.ofNat x.toNat).toNat : Int) = _
      rw [h2, Int.toNat_of_nonneg hb.1]
    rw [e]
    intro j u hu
    have hj : j < zs.length := by
      simp only [vi, List.getElem?_map] at hu
      rcases Nat.lt_or_ge j zs.length with q | q
      · exact q
      · rw [List.getElem?_eq_none q] at hu
        cases hu
    have hc := hcell j hj
    obtain ⟨b, off, spot⟩ := a
    have hspot : spot = none := by
      have h0 := hcell 0 (by omega)
      simpa [Addr.add] using World.cell?_spot h0
    subst hspot
    rw [Addr.add_lit] at hc
    refine ⟨b, off, rfl, World.block_lt_of_cell? w _ hc, ?_⟩
    rw [hc]
    simp only [vi, List.getElem?_map] at hu
    rw [List.getD_eq_getElem?_getD]
    rw [List.getElem?_eq_getElem hj] at hu ⊢
    simpa using hu
theorem trod_cs {t fuel : Nat} {cs : List Value} (cs' : List Value) (e : cs' = cs) {x : DataW X × List MemPlace} (h : DataW.trod enc P w 0 (fun _ => true) true fuel t cs = some x) : DataW.trod enc P w 0 (fun _ => true) true fuel t cs' = some x := by
  rw [e]
  exact h
/-- A field of a struct, by its place. -/
theorem open_struct {e fuel : Nat} {fs : Array Field} {cs : List Value} {x : DataW X × List MemPlace} (he : P.underlying e = some (.struct fs)) (h : DataW.trod enc P w 0 (fun _ => true) true fuel e cs = some x) :
    cs.length = P.cellsOf e ∧ ∀ (j : Nat) (f : Field), fs[j]? = some f → ∃ m y, DataW.trod enc P w 0 (fun _ => true) true m f.type ((cs.drop f.offset).take (P.cellsOf f.type)) = some y := by
  obtain ⟨ys, n', hn', hy, hlen, hyl, hf⟩ := DataW.trod_struct he h
  refine ⟨hlen, fun j f hj => ?_⟩
  have hjl : j < fs.size := (Array.getElem?_eq_some_iff.1 hj).1
  have h1 := hf j f hj
  have hys : ys[j]? = some (ys[j]'(by omega)) := List.getElem?_eq_getElem (by omega)
  exact ⟨_, _, h1.trans hys⟩
end
end Go.Proofs.YtjoblmdfbddkeaaDoor

/- Any label's block: the law. -/
namespace Go.Proofs.YtjoblmdfbddkeaaDoor
open Go.RowKit Go.ChangeShapes Go.WideShapes Go.ChangeAt

theorem lives14 : comesTo ft noS tab 100000 5 [] (.bool true) = true := by kernel_rfl
set_option maxHeartbeats 4000000 in
set_option maxRecDepth 100000 in
set_option linter.unusedSimpArgs false in
theorem g_lives14 (H : Hp) : GCalls Tryd.prog 5 [] [] H (fun v H' => v = .bool true ∧ H' = H) := comesTo_any tab_is mix ft_ok (noS_ok _) lives14 H
set_option maxHeartbeats 4000000 in
set_option maxRecDepth 100000 in
set_option linter.unusedSimpArgs false in
theorem g_of (H : Hp) (S : List UInt8) (g n : Int) : GCalls Tryd.prog 8 [labV S g n] [] H fun v H' => v = .agg #[.string ⟨S.toArray⟩, .int .i64 g, .int .i64 n] ∧ HExt [] H H' := by
  unfold labV
  refine GCalls.body tab_is Tryd.func8 rfl Tryd.results8 Tryd.ntmps8 (by simp) ?_ ?_
  · first | (intro _ h; cases h; done) | (simp; done) | (simp; omega) | (intro i hi; simp at hi; rcases hi with rfl | rfl <;> omega) | (intro i hi; simp at hi; rcases hi with rfl | rfl | rfl <;> omega)
  focus
    refine GWP.seq ?_
    refine GWP.region ?_
    focus
      refine GOps.w1 rfl rfl rfl rfl (gop_box' (id := ?_) ?_ rfl rfl rfl) ?_
      rotate_left 1
      · rfl
    focus
      refine GOps.w1 rfl rfl rfl rfl (gop_alloc' (id := ?_) ?_ tab_is rfl rfl ?_) ?_
      rotate_left 1
      · simp; rfl
      · decide
    refine GOps.nil ?_
    refine GWP.seq ?_
    refine GWP.region ?_
    refine GOps.r rfl rfl rfl rfl (grd_fieldAddr tab_is rfl rfl rfl rfl rfl) ?_
    focus
      refine GOps.r rfl rfl rfl rfl (grd_load1 (b := ?_) (v := ?_) tab_is rfl rfl rfl rfl ?_ ?_) ?_
      rotate_left 2
      refine (Hp.at_push_lt ?_).trans ?_
      · simp; done
      · exact Hp.at_push_eq
      · rfl
    refine GOps.r rfl rfl rfl rfl (grd_fieldAddr tab_is rfl rfl rfl rfl rfl) ?_
    focus
      refine GOps.r rfl rfl rfl rfl (grd_load1 (b := ?_) (v := ?_) tab_is rfl rfl rfl rfl ?_ ?_) ?_
      rotate_left 2
      refine (Hp.at_push_lt ?_).trans ?_
      · simp; done
      · exact Hp.at_push_eq
      · rfl
    refine GOps.r rfl rfl rfl rfl (grd_fieldAddr tab_is rfl rfl rfl rfl rfl) ?_
    focus
      refine GOps.r rfl rfl rfl rfl (grd_load1 (b := ?_) (v := ?_) tab_is rfl rfl rfl rfl ?_ ?_) ?_
      rotate_left 2
      refine (Hp.at_push_lt ?_).trans ?_
      · simp; done
      · exact Hp.at_push_eq
      · rfl
    focus
      refine GOps.r rfl rfl rfl rfl (grd_build (cs := ?_) tab_is rfl rfl rfl ?_ rfl ?_) ?_
      rotate_left 1
      · decide
      · simp [gfill, gsets, Value.cells]; rfl
    focus
      refine GOps.s rfl rfl rfl (gop_storeC (b := ?_) (cs := ?_) tab_is rfl rfl ?_ rfl rfl ?_ ?_ ?_ ?_ ?_ ?_) ?_
      rotate_left 2
      · rfl
      · rfl
      refine Hp.at_push_id ?_
      · simp; done
      · rfl
      · exact Nat.le_of_ble_eq_true rfl
      · exact .inr (by simp)
      · simp [splice, Value.cells]; rfl
    refine GOps.nil ?_
    refine GWP.ret ?_
    focus
      refine ⟨_, (gres_cellNK (b := ?_) (cs := ?_) rfl rfl rfl ?_ ?_ ?_), ?_⟩
      rotate_left 2
      refine Hp.at_put_eq ?_
      · simp; done
      · exact Nat.le_of_ble_eq_true rfl
      · simp [Value.cells]; rfl
    refine ⟨?_, ?_⟩
    · rfl
    refine HExt.put ?_ ?_
    refine HExt.push ?_
    refine HExt.push ?_
    · exact HExt.refl _ _
    · exact .inr (by omega)
set_option maxHeartbeats 4000000 in
set_option maxRecDepth 100000 in
set_option linter.unusedSimpArgs false in
/-- What was put is read. -/
theorem g_lreadB (H : Hp) (S : List UInt8) (g n : Int) (hr : poolO S ∧ 1 ≤ g ∧ g ≤ 1073741824 ∧ 0 ≤ n ∧ n ≤ 1073741824) (p : Option Addr) (m c : Nat) (hb : BS H (.slice p m c) (sealL (labB S g n))) (hm : m ≤ 35184372088832) :
    GCalls Tryd.prog 6 [.slice p m c] [] H fun v H' => v = .tuple #[.agg #[.string ⟨S.toArray⟩, .int .i64 g, .int .i64 n], .int .i64 0] ∧ HExt [] H H' := by
  have w3 := w64_of (show 0 ≤ g by omega) (by omega)
  have w4 := w64_of hr.2.2.2.1 (by omega)
  have h := g_lreadC H p m c _ _ hb hm (openL_lab S g n) _ _ _ (labR1 S g n hr.1.2.1) (labR2 g n (by omega)) (labR3 n (by omega))
  have hc : ¬ ((⟨[], 0⟩ : RdS).fin ≠ 0 ∨ ¬ (poolO S ∧ 1 ≤ w64 g)) := by
    intro h
    rcases h with h | h
    · exact h (by simp [RdS.fin])
    · exact h ⟨hr.1, by omega⟩
  simp only [if_neg hc, w3, w4, labV] at h
  exact h
set_option maxHeartbeats 4000000 in
set_option maxRecDepth 100000 in
set_option linter.unusedSimpArgs false in
theorem g_labelBytes (H : Hp) (S T : List UInt8) (g n : Int) (hS : S.length ≤ 140737488351232) (hT : T.length ≤ 140737488351232) : GCalls Tryd.prog 4 [labV S g n, .string ⟨T.toArray⟩] [] H fun v _ => v = .bool true := by
  have hO := fun H => g_of H S g n
  unfold labV at hO ⊢
  by_cases hlen : 200 < S.length + T.length
  ·
    refine GCalls.body tab_is Tryd.func4 rfl Tryd.results4 Tryd.ntmps4 (by simp) ?_ ?_
    · first | (intro _ h; cases h; done) | (simp; done) | (simp; omega) | (intro i hi; simp at hi; rcases hi with rfl | rfl <;> omega) | (intro i hi; simp at hi; rcases hi with rfl | rfl | rfl <;> omega)
    focus
      refine GWP.seq ?_
      refine GWP.region ?_
      focus
        refine GOps.w1 rfl rfl rfl rfl (gop_box' (id := ?_) ?_ rfl rfl rfl) ?_
        rotate_left 1
        · rfl
      refine GOps.r rfl rfl rfl rfl (grd_assign rfl rfl) ?_
      refine GOps.nil ?_
      refine GWP.seq ?_
      refine GWP.seq ?_
      refine GWP.region ?_
      refine GOps.w1 rfl rfl rfl rfl (gop_call0 (f := 5) rfl Tryd.call5 ?_ (g_lives14 _)) ?_
      · intro _ h; cases h; done
      refine GOps.r rfl rfl rfl rfl (grd_not rfl rfl) ?_
      refine GOps.r rfl rfl rfl rfl (grd_move rfl rfl) ?_
      refine GOps.take rfl rfl ?_ ?_
      · simp; done
      refine GOps.r rfl rfl rfl rfl (grd_fieldAddr tab_is rfl rfl rfl rfl rfl) ?_
      refine GOps.take rfl rfl ?_ ?_
      · simp; done
      focus
        refine GOps.r rfl rfl rfl rfl (grd_load1 (b := ?_) (v := ?_) tab_is rfl rfl rfl rfl ?_ ?_) ?_
        rotate_left 2
        · exact Hp.at_push_eq
        · rfl
      refine GOps.take rfl rfl ?_ ?_
      · simp; done
      refine GOps.r rfl rfl rfl rfl (grd_lenSL tab_is rfl rfl rfl rfl rfl) ?_
      refine GOps.take rfl rfl ?_ ?_
      · simp; done
      refine GOps.r rfl rfl rfl rfl (grd_move rfl rfl) ?_
      refine GOps.take rfl rfl ?_ ?_
      · simp; done
      refine GOps.r rfl rfl rfl rfl (grd_lenSL tab_is rfl rfl rfl rfl rfl) ?_
      refine GOps.take rfl rfl ?_ ?_
      · simp; done
      refine GOps.r rfl rfl rfl rfl (grd_add64 rfl rfl rfl ?_) ?_
      · omega
      refine GOps.take rfl rfl ?_ ?_
      · simp; done
      refine GOps.r rfl rfl rfl rfl (grd_gtr rfl rfl rfl) ?_
      refine GOps.r rfl rfl rfl rfl (grd_pick_f rfl rfl ?_ rfl) ?_
      · simp; done
      refine GOps.nil ?_
      refine GWP.cond_t rfl ?_ ?_
      · exact decide_eq_true (by omega)
      refine GWP.seq ?_
      refine GWP.region ?_
      refine GOps.w1 rfl rfl rfl rfl (gop_call0 (f := 5) rfl Tryd.call5 ?_ (g_lives14 _)) ?_
      · intro _ h; cases h; done
      refine GOps.r rfl rfl rfl rfl (grd_assign rfl rfl) ?_
      refine GOps.nil ?_
      refine GWP.ret ?_
      refine ⟨_, .one rfl, ?_⟩
      · rfl
  have hP1 := fun H => g_pool H T (by omega)
  have hP2 := fun H => g_rpool H T (by omega)
  generalize decide (poolO T) = bT at hP1 hP2
  have hR1 := fun H => g_lright H S (by omega) g n
  have hR2 := fun H => g_rright H S (by omega) g n
  unfold labV at hR2
  by_cases hr : poolO S ∧ 1 ≤ g ∧ g ≤ 1073741824 ∧ 0 ≤ n ∧ n ≤ 1073741824
  · rw [decide_eq_true hr] at hR1 hR2
    have hB := fun H => g_lbytes H S g n hr
    have hB2 := fun H => g_rlbytes H S g n ⟨hr.1.1, hr.1.2.1⟩
    unfold labV at hB hB2
    have hl := labB_len S g n hr.1.2.1
    refine GCalls.body tab_is Tryd.func4 rfl Tryd.results4 Tryd.ntmps4 (by simp) ?_ ?_
    · first | (intro _ h; cases h; done) | (simp; done) | (simp; omega) | (intro i hi; simp at hi; rcases hi with rfl | rfl <;> omega) | (intro i hi; simp at hi; rcases hi with rfl | rfl | rfl <;> omega)
    focus
      refine GWP.seq ?_
      refine GWP.region ?_
      focus
        refine GOps.w1 rfl rfl rfl rfl (gop_box' (id := ?_) ?_ rfl rfl rfl) ?_
        rotate_left 1
        · rfl
      refine GOps.r rfl rfl rfl rfl (grd_assign rfl rfl) ?_
      refine GOps.nil ?_
      refine GWP.seq ?_
      refine GWP.seq ?_
      refine GWP.region ?_
      refine GOps.w1 rfl rfl rfl rfl (gop_call0 (f := 5) rfl Tryd.call5 ?_ (g_lives14 _)) ?_
      · intro _ h; cases h; done
      refine GOps.r rfl rfl rfl rfl (grd_not rfl rfl) ?_
      refine GOps.r rfl rfl rfl rfl (grd_move rfl rfl) ?_
      refine GOps.take rfl rfl ?_ ?_
      · simp; done
      refine GOps.r rfl rfl rfl rfl (grd_fieldAddr tab_is rfl rfl rfl rfl rfl) ?_
      refine GOps.take rfl rfl ?_ ?_
      · simp; done
      focus
        refine GOps.r rfl rfl rfl rfl (grd_load1 (b := ?_) (v := ?_) tab_is rfl rfl rfl rfl ?_ ?_) ?_
        rotate_left 2
        · exact Hp.at_push_eq
        · rfl
      refine GOps.take rfl rfl ?_ ?_
      · simp; done
      refine GOps.r rfl rfl rfl rfl (grd_lenSL tab_is rfl rfl rfl rfl rfl) ?_
      refine GOps.take rfl rfl ?_ ?_
      · simp; done
      refine GOps.r rfl rfl rfl rfl (grd_move rfl rfl) ?_
      refine GOps.take rfl rfl ?_ ?_
      · simp; done
      refine GOps.r rfl rfl rfl rfl (grd_lenSL tab_is rfl rfl rfl rfl rfl) ?_
      refine GOps.take rfl rfl ?_ ?_
      · simp; done
      refine GOps.r rfl rfl rfl rfl (grd_add64 rfl rfl rfl ?_) ?_
      · omega
      refine GOps.take rfl rfl ?_ ?_
      · simp; done
      refine GOps.r rfl rfl rfl rfl (grd_gtr rfl rfl rfl) ?_
      refine GOps.r rfl rfl rfl rfl (grd_pick_f rfl rfl ?_ rfl) ?_
      · simp; done
      refine GOps.nil ?_
      refine GWP.cond_f rfl ?_ ?_
      · exact decide_eq_false (by omega)
      refine GWP.skip ?_
      refine GWP.seq ?_
      refine GWP.region ?_
      focus
        refine GOps.r rfl rfl rfl rfl (grd_loadNK (b := ?_) (cs := ?_) tab_is rfl rfl rfl rfl ?_ ?_ ?_) ?_
        rotate_left 2
        · exact Hp.at_push_eq
        · exact Nat.le_of_ble_eq_true rfl
        · simp [Value.cells]; rfl
      refine GOps.w rfl rfl rfl rfl (gop_call rfl Tryd.call9 rfl ?_ (hB _)) ?_
      · intro _ h; cases h; done
      rintro _ Hxc4 ⟨⟨pc1, cc2, rfl, bc3⟩, xc4⟩
      have xc4l := HExt.len xc4; try simp at xc4l
      refine GOps.r rfl rfl rfl rfl (grd_move rfl rfl) ?_
      focus
        refine GOps.r rfl rfl rfl rfl (grd_extract (v := ?_) rfl rfl ?_) ?_
        rotate_left 1
        · simp only [List.getElem?_toArray, List.getElem?_cons_zero, List.getElem?_cons_succ]; rfl
      focus
        refine GOps.r rfl rfl rfl rfl (grd_extract (v := ?_) rfl rfl ?_) ?_
        rotate_left 1
        · simp only [List.getElem?_toArray, List.getElem?_cons_zero, List.getElem?_cons_succ]; rfl
      refine GOps.r rfl rfl rfl rfl (grd_assign rfl rfl) ?_
      refine GOps.r rfl rfl rfl rfl (grd_assign rfl rfl) ?_
      refine GOps.nil ?_
      refine GWP.seq ?_
      refine GWP.region ?_
      focus
        refine GOps.r rfl rfl rfl rfl (grd_loadNK (b := ?_) (cs := ?_) tab_is rfl rfl rfl rfl ?_ ?_ ?_) ?_
        rotate_left 2
        refine (HExt.eq (by assumption) _ ?_ ?_).trans ?_
        · simp; done
        · intro h; cases h; done
        · exact Hp.at_push_eq
        · exact Nat.le_of_ble_eq_true rfl
        · simp [Value.cells]; rfl
      refine GOps.w rfl rfl rfl rfl (gop_call rfl Tryd.call8 rfl ?_ (hO _)) ?_
      · intro _ h; cases h; done
      rintro _ Hxc5 ⟨rfl, xc5⟩
      have xc5l := HExt.len xc5; try simp at xc5l
      refine GOps.w rfl rfl rfl rfl (gop_call rfl Tryd.call10 rfl ?_ (hR2 _)) ?_
      · intro _ h; cases h; done
      rintro _ Hxc6 ⟨rfl, xc6⟩
      have xc6l := HExt.len xc6; try simp at xc6l
      refine GOps.r rfl rfl rfl rfl (grd_assign rfl rfl) ?_
      refine GOps.nil ?_
      refine GWP.seq ?_
      refine GWP.seq ?_
      refine GWP.region ?_
      focus
        refine GOps.r rfl rfl rfl rfl (grd_loadNK (b := ?_) (cs := ?_) tab_is rfl rfl rfl rfl ?_ ?_ ?_) ?_
        rotate_left 2
        refine (HExt.eq (by assumption) _ ?_ ?_).trans ?_
        · omega
        · intro h; cases h; done
        refine (HExt.eq (by assumption) _ ?_ ?_).trans ?_
        · omega
        · intro h; cases h; done
        refine (HExt.eq (by assumption) _ ?_ ?_).trans ?_
        · simp; done
        · intro h; cases h; done
        · exact Hp.at_push_eq
        · exact Nat.le_of_ble_eq_true rfl
        · simp [Value.cells]; rfl
      refine GOps.w rfl rfl rfl rfl (gop_call rfl Tryd.call11 rfl ?_ (hR1 _)) ?_
      · intro _ h; cases h; done
      rintro _ Hxc7 ⟨rfl, xc7⟩
      have xc7l := HExt.len xc7; try simp at xc7l
      refine GOps.r rfl rfl rfl rfl (grd_move rfl rfl) ?_
      refine GOps.r rfl rfl rfl rfl (grd_bneq tab_is rfl rfl rfl rfl rfl) ?_
      refine GOps.r rfl rfl rfl rfl (grd_move rfl rfl) ?_
      refine GOps.take rfl rfl ?_ ?_
      · simp; done
      refine GOps.r rfl rfl rfl rfl (grd_move rfl rfl) ?_
      refine GOps.take rfl rfl ?_ ?_
      · simp; done
      refine GOps.w rfl rfl rfl rfl (gop_call rfl Tryd.call12 rfl ?_ (hP1 _)) ?_
      · intro _ h; cases h; done
      rintro _ Hxc8 ⟨rfl, xc8⟩
      have xc8l := HExt.len xc8; try simp at xc8l
      refine GOps.take rfl rfl ?_ ?_
      · simp; done
      refine GOps.r rfl rfl rfl rfl (grd_move rfl rfl) ?_
      refine GOps.take rfl rfl ?_ ?_
      · simp; done
      refine GOps.w rfl rfl rfl rfl (gop_call rfl Tryd.call13 rfl ?_ (hP2 _)) ?_
      · intro _ h; cases h; done
      rintro _ Hxc9 ⟨rfl, xc9⟩
      have xc9l := HExt.len xc9; try simp at xc9l
      refine GOps.take rfl rfl ?_ ?_
      · simp; done
      refine GOps.r rfl rfl rfl rfl (grd_bneq tab_is rfl rfl rfl rfl rfl) ?_
      refine GOps.r rfl rfl rfl rfl (grd_pick_f rfl rfl ?_ rfl) ?_
      · simp; done
      refine GOps.r rfl rfl rfl rfl (grd_move rfl rfl) ?_
      refine GOps.take rfl rfl ?_ ?_
      · simp; done
      refine GOps.r rfl rfl rfl rfl (grd_move rfl rfl) ?_
      refine GOps.take rfl rfl ?_ ?_
      · simp; done
      refine GOps.r rfl rfl rfl rfl (grd_eql rfl rfl rfl) ?_
      refine GOps.take rfl rfl ?_ ?_
      · simp; done
      refine GOps.r rfl rfl rfl rfl (grd_move rfl rfl) ?_
      refine GOps.take rfl rfl ?_ ?_
      · simp; done
      refine GOps.r rfl rfl rfl rfl (grd_bneq tab_is rfl rfl rfl rfl rfl) ?_
      refine GOps.r rfl rfl rfl rfl (grd_pick_f rfl rfl ?_ rfl) ?_
      · simp; done
      refine GOps.nil ?_
      refine GWP.cond_f rfl ?_ ?_
      · simp; done
      refine GWP.skip ?_
      refine GWP.seq ?_
      refine GWP.seq ?_
      refine GWP.region ?_
      refine GOps.r rfl rfl rfl rfl (grd_move rfl rfl) ?_
      refine GOps.r rfl rfl rfl rfl (grd_not rfl rfl) ?_
      refine GOps.nil ?_
      refine GWP.cond_f rfl ?_ ?_
      · simp; done
      refine GWP.skip ?_
      refine GWP.seq ?_
      refine GWP.region ?_
      refine GOps.r rfl rfl rfl rfl (grd_move rfl rfl) ?_
      refine GOps.w rfl rfl rfl rfl (gop_call rfl Tryd.call6 rfl ?_ (g_lreadB _ S g n hr _ _ _ ?_ ?_)) ?_
      · intro _ h; cases h; done
      focus
        refine BS.ext (by assumption) ?_
        refine HExt.tr ?_ (by assumption) ?_
        refine HExt.tr ?_ (by assumption) ?_
        refine HExt.tr ?_ (by assumption) ?_
        refine HExt.tr ?_ (by assumption) ?_
        · assumption
        · intro _ h; cases h; done
        · intro _ h; cases h; done
        · intro _ h; cases h; done
        · intro _ h; cases h; done
      · omega
      rintro _ Hxc10 ⟨rfl, xc10⟩
      have xc10l := HExt.len xc10; try simp at xc10l
      refine GOps.r rfl rfl rfl rfl (grd_move rfl rfl) ?_
      focus
        refine GOps.r rfl rfl rfl rfl (grd_extract (v := ?_) rfl rfl ?_) ?_
        rotate_left 1
        · simp only [List.getElem?_toArray, List.getElem?_cons_zero, List.getElem?_cons_succ]; rfl
      focus
        refine GOps.r rfl rfl rfl rfl (grd_extract (v := ?_) rfl rfl ?_) ?_
        rotate_left 1
        · simp only [List.getElem?_toArray, List.getElem?_cons_zero, List.getElem?_cons_succ]; rfl
      focus
        refine GOps.w1 rfl rfl rfl rfl (gop_alloc' (id := ?_) ?_ tab_is rfl rfl ?_) ?_
        rotate_left 1
        · rfl
        · decide
      focus
        refine GOps.s rfl rfl rfl (gop_storeC (b := ?_) (cs := ?_) tab_is rfl rfl ?_ rfl rfl ?_ ?_ ?_ ?_ ?_ ?_) ?_
        rotate_left 2
        · rfl
        · rfl
        · exact Hp.at_push_eq
        · rfl
        · exact Nat.le_of_ble_eq_true rfl
        · exact .inr (by simp; omega)
        · simp [splice, Value.cells]; rfl
      refine GOps.r rfl rfl rfl rfl (grd_assign rfl rfl) ?_
      refine GOps.nil ?_
      refine GWP.seq ?_
      refine GWP.draw [.reads [0, 2, 1], .write 3, .write 4, .reads [5, 6, 7, 8, 9, 10, 11, 12, 13, 14, 15, 16]] false (blkOf pc1 ++ [List.length Hxc10, List.length H]) (by kernel_rfl) (by kernel_rfl) (by kernel_rfl) (by kernel_rfl) ?_ ?_
      focus
        refine prt_len (BS.ext (by assumption) ?_) ?_
        focus
          refine HExt.put ?_ ?_
          refine HExt.push ?_
          refine HExt.tr ?_ (by assumption) ?_
          refine HExt.tr ?_ (by assumption) ?_
          refine HExt.tr ?_ (by assumption) ?_
          refine HExt.tr ?_ (by assumption) ?_
          refine HExt.tr ?_ (by assumption) ?_
          · assumption
          · intro _ h; cases h; done
          · intro _ h; cases h; done
          · intro _ h; cases h; done
          · intro _ h; cases h; done
          · intro _ h; cases h; done
          · exact .inr (by omega)
        focus
          · simp; omega
      refine GPcs.reads (by simp only [List.filterMap_cons, List.filterMap_nil, List.getElem?_toArray, List.getElem?_cons_succ, List.getElem?_cons_zero]; rfl) ?_
      refine GQ.r rfl rfl rfl rfl (grd_move rfl rfl) ?_ ?_
      · refine .inr ?_; simp; done
      focus
        refine GQ.r rfl rfl rfl rfl (grd_loadNK (b := ?_) (cs := ?_) tab_is rfl rfl rfl rfl ?_ ?_ ?_) ?_ ?_
        rotate_left 2
        refine (Hp.at_put_ne ?_).trans ?_
        · omega
        refine (Hp.at_push_lt ?_).trans ?_
        · omega
        refine (HExt.eq (by assumption) _ ?_ ?_).trans ?_
        · omega
        · intro h; cases h; done
        refine (HExt.eq (by assumption) _ ?_ ?_).trans ?_
        · omega
        · intro h; cases h; done
        refine (HExt.eq (by assumption) _ ?_ ?_).trans ?_
        · omega
        · intro h; cases h; done
        refine (HExt.eq (by assumption) _ ?_ ?_).trans ?_
        · omega
        · intro h; cases h; done
        refine (HExt.eq (by assumption) _ ?_ ?_).trans ?_
        · omega
        · intro h; cases h; done
        refine (HExt.eq (by assumption) _ ?_ ?_).trans ?_
        · omega
        · intro h; cases h; done
        refine (HExt.eq (by assumption) _ ?_ ?_).trans ?_
        · simp; done
        · intro h; cases h; done
        · exact Hp.at_push_eq
        · exact Nat.le_of_ble_eq_true rfl
        · simp [Value.cells]; rfl
        · refine .inr ?_; simp; done
      focus
        refine GQ.r rfl rfl rfl rfl (grd_strBP (L := ?_) tab_is rfl rfl rfl rfl rfl rfl rfl rfl ?_) ?_ ?_
        rotate_left 1
        focus
          refine BS.ext (by assumption) ?_
          refine HExt.put ?_ ?_
          refine HExt.push ?_
          refine HExt.tr ?_ (by assumption) ?_
          refine HExt.tr ?_ (by assumption) ?_
          refine HExt.tr ?_ (by assumption) ?_
          refine HExt.tr ?_ (by assumption) ?_
          refine HExt.tr ?_ (by assumption) ?_
          · assumption
          · intro _ h; cases h; done
          · intro _ h; cases h; done
          · intro _ h; cases h; done
          · intro _ h; cases h; done
          · intro _ h; cases h; done
          · exact .inr (by omega)
        · refine .inr ?_; intro i hi; simp [hi]
      refine GQ.nil ?_
      refine GPcs.writeD false rfl rfl ?_ rfl rfl (gopf_call rfl Tryd.call8 rfl ?_ (hO _)) rfl ?_ ?_ ?_
      · with_reducible rfl
      · intro _ h; cases h; done
      · intro _ h; cases h; done
      focus
        refine prt_app (BS.ext (by assumption) ?_) ?_ ?_
        focus
          refine HExt.put ?_ ?_
          refine HExt.push ?_
          refine HExt.tr ?_ (by assumption) ?_
          refine HExt.tr ?_ (by assumption) ?_
          refine HExt.tr ?_ (by assumption) ?_
          refine HExt.tr ?_ (by assumption) ?_
          refine HExt.tr ?_ (by assumption) ?_
          · assumption
          · intro _ h; cases h; done
          · intro _ h; cases h; done
          · intro _ h; cases h; done
          · intro _ h; cases h; done
          · intro _ h; cases h; done
          · exact .inr (by omega)
        focus
          · intro _ h; cases h; done
        focus
          focus
            refine List.forall_mem_cons.2 ⟨⟨⟨?_, ?_⟩, ?_⟩, ?_⟩
            rotate_left 1
            refine Hp.at_put_eq ?_
            · simp; done
            · intro h; cases h; done
            focus
              refine List.forall_mem_cons.2 ⟨⟨⟨?_, ?_⟩, ?_⟩, ?_⟩
              rotate_left 1
              refine (Hp.at_put_ne ?_).trans ?_
              · omega
              refine (Hp.at_push_lt ?_).trans ?_
              · omega
              refine (HExt.eq (by assumption) _ ?_ ?_).trans ?_
              · omega
              · intro h; cases h; done
              refine (HExt.eq (by assumption) _ ?_ ?_).trans ?_
              · omega
              · intro h; cases h; done
              refine (HExt.eq (by assumption) _ ?_ ?_).trans ?_
              · omega
              · intro h; cases h; done
              refine (HExt.eq (by assumption) _ ?_ ?_).trans ?_
              · omega
              · intro h; cases h; done
              refine (HExt.eq (by assumption) _ ?_ ?_).trans ?_
              · omega
              · intro h; cases h; done
              refine (HExt.eq (by assumption) _ ?_ ?_).trans ?_
              · omega
              · intro h; cases h; done
              refine (HExt.eq (by assumption) _ ?_ ?_).trans ?_
              · simp; done
              · intro h; cases h; done
              · exact Hp.at_push_eq
              · intro h; cases h; done
              · intro _ h; cases h; done
      rintro _ Hxc11 ⟨rfl, xc11⟩
      have xc11l := HExt.len xc11; try simp at xc11l
      refine ⟨(blkOf pc1 ++ [List.length Hxc10, List.length H]), ?_, ?_, ?_⟩
      · simp; done
      focus
        refine prt_len (BS.ext (by assumption) ?_) ?_
        focus
          refine HExt.tr ?_ (by assumption) ?_
          refine HExt.put ?_ ?_
          refine HExt.push ?_
          refine HExt.tr ?_ (by assumption) ?_
          refine HExt.tr ?_ (by assumption) ?_
          refine HExt.tr ?_ (by assumption) ?_
          refine HExt.tr ?_ (by assumption) ?_
          refine HExt.tr ?_ (by assumption) ?_
          · assumption
          · intro _ h; cases h; done
          · intro _ h; cases h; done
          · intro _ h; cases h; done
          · intro _ h; cases h; done
          · intro _ h; cases h; done
          · exact .inr (by omega)
          · intro _ h; cases h; done
        focus
          · simp; omega
      refine GPcs.write true (blkOf pc1 ++ [List.length Hxc10, List.length H]) rfl rfl ?_ rfl rfl (gopf_call rfl Tryd.call14 rfl ?_ (hB2 _)) rfl ?_ ?_ ?_ ?_
      · with_reducible rfl
      · intro _ h; cases h; done
      · intro _ h; cases h; done
      focus
        refine prt_app (BS.ext (by assumption) ?_) ?_ ?_
        focus
          refine HExt.tr ?_ (by assumption) ?_
          refine HExt.put ?_ ?_
          refine HExt.push ?_
          refine HExt.tr ?_ (by assumption) ?_
          refine HExt.tr ?_ (by assumption) ?_
          refine HExt.tr ?_ (by assumption) ?_
          refine HExt.tr ?_ (by assumption) ?_
          refine HExt.tr ?_ (by assumption) ?_
          · assumption
          · intro _ h; cases h; done
          · intro _ h; cases h; done
          · intro _ h; cases h; done
          · intro _ h; cases h; done
          · intro _ h; cases h; done
          · exact .inr (by omega)
          · intro _ h; cases h; done
        focus
          · intro _ h; cases h; done
        focus
          focus
            refine List.forall_mem_cons.2 ⟨⟨⟨?_, ?_⟩, ?_⟩, ?_⟩
            rotate_left 1
            refine (HExt.eq (by assumption) _ ?_ ?_).trans ?_
            · simp; done
            · intro h; cases h; done
            refine Hp.at_put_eq ?_
            · simp; done
            · intro h; cases h; done
            focus
              refine List.forall_mem_cons.2 ⟨⟨⟨?_, ?_⟩, ?_⟩, ?_⟩
              rotate_left 1
              refine (HExt.eq (by assumption) _ ?_ ?_).trans ?_
              · simp; omega
              · intro h; cases h; done
              refine (Hp.at_put_ne ?_).trans ?_
              · omega
              refine (Hp.at_push_lt ?_).trans ?_
              · omega
              refine (HExt.eq (by assumption) _ ?_ ?_).trans ?_
              · omega
              · intro h; cases h; done
              refine (HExt.eq (by assumption) _ ?_ ?_).trans ?_
              · omega
              · intro h; cases h; done
              refine (HExt.eq (by assumption) _ ?_ ?_).trans ?_
              · omega
              · intro h; cases h; done
              refine (HExt.eq (by assumption) _ ?_ ?_).trans ?_
              · omega
              · intro h; cases h; done
              refine (HExt.eq (by assumption) _ ?_ ?_).trans ?_
              · omega
              · intro h; cases h; done
              refine (HExt.eq (by assumption) _ ?_ ?_).trans ?_
              · omega
              · intro h; cases h; done
              refine (HExt.eq (by assumption) _ ?_ ?_).trans ?_
              · simp; done
              · intro h; cases h; done
              · exact Hp.at_push_eq
              · intro h; cases h; done
              · intro _ h; cases h; done
      · simp; done
      rintro _ Hxc15 ⟨⟨pc12, cc13, rfl, bc14⟩, xc15⟩
      have xc15l := HExt.len xc15; try simp at xc15l
      refine ⟨?_, ?_⟩
      focus
        refine prt_len (BS.ext (by assumption) ?_) ?_
        focus
          refine HExt.tr ?_ (by assumption) ?_
          refine HExt.tr ?_ (by assumption) ?_
          refine HExt.put ?_ ?_
          refine HExt.push ?_
          refine HExt.tr ?_ (by assumption) ?_
          refine HExt.tr ?_ (by assumption) ?_
          refine HExt.tr ?_ (by assumption) ?_
          refine HExt.tr ?_ (by assumption) ?_
          refine HExt.tr ?_ (by assumption) ?_
          · assumption
          · intro _ h; cases h; done
          · intro _ h; cases h; done
          · intro _ h; cases h; done
          · intro _ h; cases h; done
          · intro _ h; cases h; done
          · exact .inr (by omega)
          · intro _ h; cases h; done
          · intro _ h; cases h; done
        focus
          · simp; omega
      refine GPcs.reads (by simp only [List.filterMap_cons, List.filterMap_nil, List.getElem?_toArray, List.getElem?_cons_succ, List.getElem?_cons_zero]; rfl) ?_
      focus
        refine GQ.r rfl rfl rfl rfl (grd_strBP (L := ?_) tab_is rfl rfl rfl rfl rfl rfl rfl rfl ?_) ?_ ?_
        rotate_left 1
        · assumption
        · exact .inl rfl
      refine GQ.r rfl rfl rfl rfl (grd_seql' rfl rfl rfl) ?_ ?_
      · exact .inl rfl
      refine GQ.r rfl rfl rfl rfl (grd_move rfl rfl) ?_ ?_
      · exact .inl rfl
      refine GQ.take rfl rfl ?_ ?_
      · simp; done
      refine GQ.r rfl rfl rfl rfl (grd_move rfl rfl) ?_ ?_
      · exact .inl rfl
      refine GQ.take rfl rfl ?_ ?_
      · simp; done
      refine GQ.r rfl rfl rfl rfl (grd_eql rfl rfl rfl) ?_ ?_
      · exact .inl rfl
      refine GQ.r rfl rfl rfl rfl (grd_pick_t rfl rfl ?_ rfl) ?_ ?_
      · simp; done
      · exact .inl rfl
      refine GQ.r rfl rfl rfl rfl (grd_move rfl rfl) ?_ ?_
      · exact .inl rfl
      refine GQ.take rfl rfl ?_ ?_
      · simp; done
      focus
        refine GQ.r rfl rfl rfl rfl (grd_loadNK (b := ?_) (cs := ?_) tab_is rfl rfl rfl rfl ?_ ?_ ?_) ?_ ?_
        rotate_left 2
        refine (HExt.eq (by assumption) _ ?_ ?_).trans ?_
        · omega
        · intro h; cases h; done
        refine (HExt.eq (by assumption) _ ?_ ?_).trans ?_
        · simp; done
        · intro h; cases h; done
        refine Hp.at_put_eq ?_
        · simp; done
        · exact Nat.le_of_ble_eq_true rfl
        · simp [Value.cells]; rfl
        · exact .inl rfl
      refine GQ.take rfl rfl ?_ ?_
      · simp; done
      focus
        refine GQ.r rfl rfl rfl rfl (grd_loadNK (b := ?_) (cs := ?_) tab_is rfl rfl rfl rfl ?_ ?_ ?_) ?_ ?_
        rotate_left 2
        refine (HExt.eq (by assumption) _ ?_ ?_).trans ?_
        · omega
        · intro h; cases h; done
        refine (HExt.eq (by assumption) _ ?_ ?_).trans ?_
        · simp; omega
        · intro h; cases h; done
        refine (Hp.at_put_ne ?_).trans ?_
        · omega
        refine (Hp.at_push_lt ?_).trans ?_
        · omega
        refine (HExt.eq (by assumption) _ ?_ ?_).trans ?_
        · omega
        · intro h; cases h; done
        refine (HExt.eq (by assumption) _ ?_ ?_).trans ?_
        · omega
        · intro h; cases h; done
        refine (HExt.eq (by assumption) _ ?_ ?_).trans ?_
        · omega
        · intro h; cases h; done
        refine (HExt.eq (by assumption) _ ?_ ?_).trans ?_
        · omega
        · intro h; cases h; done
        refine (HExt.eq (by assumption) _ ?_ ?_).trans ?_
        · omega
        · intro h; cases h; done
        refine (HExt.eq (by assumption) _ ?_ ?_).trans ?_
        · omega
        · intro h; cases h; done
        refine (HExt.eq (by assumption) _ ?_ ?_).trans ?_
        · simp; done
        · intro h; cases h; done
        · exact Hp.at_push_eq
        · exact Nat.le_of_ble_eq_true rfl
        · simp [Value.cells]; rfl
        · exact .inl rfl
      refine GQ.take rfl rfl ?_ ?_
      · simp; done
      focus
        refine GQ.r rfl rfl rfl rfl (grd_aeqlK (b := ?_) tab_is rfl rfl rfl rfl rfl rfl ?_ ?_ ?_) ?_ ?_
        rotate_left 1
        · rfl
        · rfl
        · simp [lEq, cEq]; rfl
        · exact .inl rfl
      refine GQ.r rfl rfl rfl rfl (grd_pick_t rfl rfl ?_ rfl) ?_ ?_
      · exact decide_eq_true (by omega)
      · exact .inl rfl
      refine GQ.r rfl rfl rfl rfl (grd_assign rfl rfl) ?_ ?_
      · exact .inl rfl
      refine GQ.nil ?_
      refine GPcs.nil ?_
      refine GWP.ret ?_
      refine ⟨_, .one rfl, ?_⟩
      · rfl
  · rw [decide_eq_false hr] at hR1 hR2
    have hB := fun H => g_lbytes0 H S (by omega) g n hr
    unfold labV at hB
    refine GCalls.body tab_is Tryd.func4 rfl Tryd.results4 Tryd.ntmps4 (by simp) ?_ ?_
    · first | (intro _ h; cases h; done) | (simp; done) | (simp; omega) | (intro i hi; simp at hi; rcases hi with rfl | rfl <;> omega) | (intro i hi; simp at hi; rcases hi with rfl | rfl | rfl <;> omega)
    focus
      refine GWP.seq ?_
      refine GWP.region ?_
      focus
        refine GOps.w1 rfl rfl rfl rfl (gop_box' (id := ?_) ?_ rfl rfl rfl) ?_
        rotate_left 1
        · rfl
      refine GOps.r rfl rfl rfl rfl (grd_assign rfl rfl) ?_
      refine GOps.nil ?_
      refine GWP.seq ?_
      refine GWP.seq ?_
      refine GWP.region ?_
      refine GOps.w1 rfl rfl rfl rfl (gop_call0 (f := 5) rfl Tryd.call5 ?_ (g_lives14 _)) ?_
      · intro _ h; cases h; done
      refine GOps.r rfl rfl rfl rfl (grd_not rfl rfl) ?_
      refine GOps.r rfl rfl rfl rfl (grd_move rfl rfl) ?_
      refine GOps.take rfl rfl ?_ ?_
      · simp; done
      refine GOps.r rfl rfl rfl rfl (grd_fieldAddr tab_is rfl rfl rfl rfl rfl) ?_
      refine GOps.take rfl rfl ?_ ?_
      · simp; done
      focus
        refine GOps.r rfl rfl rfl rfl (grd_load1 (b := ?_) (v := ?_) tab_is rfl rfl rfl rfl ?_ ?_) ?_
        rotate_left 2
        · exact Hp.at_push_eq
        · rfl
      refine GOps.take rfl rfl ?_ ?_
      · simp; done
      refine GOps.r rfl rfl rfl rfl (grd_lenSL tab_is rfl rfl rfl rfl rfl) ?_
      refine GOps.take rfl rfl ?_ ?_
      · simp; done
      refine GOps.r rfl rfl rfl rfl (grd_move rfl rfl) ?_
      refine GOps.take rfl rfl ?_ ?_
      · simp; done
      refine GOps.r rfl rfl rfl rfl (grd_lenSL tab_is rfl rfl rfl rfl rfl) ?_
      refine GOps.take rfl rfl ?_ ?_
      · simp; done
      refine GOps.r rfl rfl rfl rfl (grd_add64 rfl rfl rfl ?_) ?_
      · omega
      refine GOps.take rfl rfl ?_ ?_
      · simp; done
      refine GOps.r rfl rfl rfl rfl (grd_gtr rfl rfl rfl) ?_
      refine GOps.r rfl rfl rfl rfl (grd_pick_f rfl rfl ?_ rfl) ?_
      · simp; done
      refine GOps.nil ?_
      refine GWP.cond_f rfl ?_ ?_
      · exact decide_eq_false (by omega)
      refine GWP.skip ?_
      refine GWP.seq ?_
      refine GWP.region ?_
      focus
        refine GOps.r rfl rfl rfl rfl (grd_loadNK (b := ?_) (cs := ?_) tab_is rfl rfl rfl rfl ?_ ?_ ?_) ?_
        rotate_left 2
        · exact Hp.at_push_eq
        · exact Nat.le_of_ble_eq_true rfl
        · simp [Value.cells]; rfl
      refine GOps.w rfl rfl rfl rfl (gop_call rfl Tryd.call9 rfl ?_ (hB _)) ?_
      · intro _ h; cases h; done
      rintro _ Hxd1 ⟨rfl, xd1⟩
      have xd1l := HExt.len xd1; try simp at xd1l
      refine GOps.r rfl rfl rfl rfl (grd_move rfl rfl) ?_
      focus
        refine GOps.r rfl rfl rfl rfl (grd_extract (v := ?_) rfl rfl ?_) ?_
        rotate_left 1
        · simp only [List.getElem?_toArray, List.getElem?_cons_zero, List.getElem?_cons_succ]; rfl
      focus
        refine GOps.r rfl rfl rfl rfl (grd_extract (v := ?_) rfl rfl ?_) ?_
        rotate_left 1
        · simp only [List.getElem?_toArray, List.getElem?_cons_zero, List.getElem?_cons_succ]; rfl
      refine GOps.r rfl rfl rfl rfl (grd_assign rfl rfl) ?_
      refine GOps.r rfl rfl rfl rfl (grd_assign rfl rfl) ?_
      refine GOps.nil ?_
      refine GWP.seq ?_
      refine GWP.region ?_
      focus
        refine GOps.r rfl rfl rfl rfl (grd_loadNK (b := ?_) (cs := ?_) tab_is rfl rfl rfl rfl ?_ ?_ ?_) ?_
        rotate_left 2
        refine (HExt.eq (by assumption) _ ?_ ?_).trans ?_
        · simp; done
        · intro h; cases h; done
        · exact Hp.at_push_eq
        · exact Nat.le_of_ble_eq_true rfl
        · simp [Value.cells]; rfl
      refine GOps.w rfl rfl rfl rfl (gop_call rfl Tryd.call8 rfl ?_ (hO _)) ?_
      · intro _ h; cases h; done
      rintro _ Hxd2 ⟨rfl, xd2⟩
      have xd2l := HExt.len xd2; try simp at xd2l
      refine GOps.w rfl rfl rfl rfl (gop_call rfl Tryd.call10 rfl ?_ (hR2 _)) ?_
      · intro _ h; cases h; done
      rintro _ Hxd3 ⟨rfl, xd3⟩
      have xd3l := HExt.len xd3; try simp at xd3l
      refine GOps.r rfl rfl rfl rfl (grd_assign rfl rfl) ?_
      refine GOps.nil ?_
      refine GWP.seq ?_
      refine GWP.seq ?_
      refine GWP.region ?_
      focus
        refine GOps.r rfl rfl rfl rfl (grd_loadNK (b := ?_) (cs := ?_) tab_is rfl rfl rfl rfl ?_ ?_ ?_) ?_
        rotate_left 2
        refine (HExt.eq (by assumption) _ ?_ ?_).trans ?_
        · omega
        · intro h; cases h; done
        refine (HExt.eq (by assumption) _ ?_ ?_).trans ?_
        · omega
        · intro h; cases h; done
        refine (HExt.eq (by assumption) _ ?_ ?_).trans ?_
        · simp; done
        · intro h; cases h; done
        · exact Hp.at_push_eq
        · exact Nat.le_of_ble_eq_true rfl
        · simp [Value.cells]; rfl
      refine GOps.w rfl rfl rfl rfl (gop_call rfl Tryd.call11 rfl ?_ (hR1 _)) ?_
      · intro _ h; cases h; done
      rintro _ Hxd4 ⟨rfl, xd4⟩
      have xd4l := HExt.len xd4; try simp at xd4l
      refine GOps.r rfl rfl rfl rfl (grd_move rfl rfl) ?_
      refine GOps.r rfl rfl rfl rfl (grd_bneq tab_is rfl rfl rfl rfl rfl) ?_
      refine GOps.r rfl rfl rfl rfl (grd_move rfl rfl) ?_
      refine GOps.take rfl rfl ?_ ?_
      · simp; done
      refine GOps.r rfl rfl rfl rfl (grd_move rfl rfl) ?_
      refine GOps.take rfl rfl ?_ ?_
      · simp; done
      refine GOps.w rfl rfl rfl rfl (gop_call rfl Tryd.call12 rfl ?_ (hP1 _)) ?_
      · intro _ h; cases h; done
      rintro _ Hxd5 ⟨rfl, xd5⟩
      have xd5l := HExt.len xd5; try simp at xd5l
      refine GOps.take rfl rfl ?_ ?_
      · simp; done
      refine GOps.r rfl rfl rfl rfl (grd_move rfl rfl) ?_
      refine GOps.take rfl rfl ?_ ?_
      · simp; done
      refine GOps.w rfl rfl rfl rfl (gop_call rfl Tryd.call13 rfl ?_ (hP2 _)) ?_
      · intro _ h; cases h; done
      rintro _ Hxd6 ⟨rfl, xd6⟩
      have xd6l := HExt.len xd6; try simp at xd6l
      refine GOps.take rfl rfl ?_ ?_
      · simp; done
      refine GOps.r rfl rfl rfl rfl (grd_bneq tab_is rfl rfl rfl rfl rfl) ?_
      refine GOps.r rfl rfl rfl rfl (grd_pick_f rfl rfl ?_ rfl) ?_
      · simp; done
      refine GOps.r rfl rfl rfl rfl (grd_move rfl rfl) ?_
      refine GOps.take rfl rfl ?_ ?_
      · simp; done
      refine GOps.r rfl rfl rfl rfl (grd_move rfl rfl) ?_
      refine GOps.take rfl rfl ?_ ?_
      · simp; done
      refine GOps.r rfl rfl rfl rfl (grd_eql rfl rfl rfl) ?_
      refine GOps.take rfl rfl ?_ ?_
      · simp; done
      refine GOps.r rfl rfl rfl rfl (grd_move rfl rfl) ?_
      refine GOps.take rfl rfl ?_ ?_
      · simp; done
      refine GOps.r rfl rfl rfl rfl (grd_bneq tab_is rfl rfl rfl rfl rfl) ?_
      refine GOps.r rfl rfl rfl rfl (grd_pick_f rfl rfl ?_ rfl) ?_
      · simp; done
      refine GOps.nil ?_
      refine GWP.cond_f rfl ?_ ?_
      · simp; done
      refine GWP.skip ?_
      refine GWP.seq ?_
      refine GWP.seq ?_
      refine GWP.region ?_
      refine GOps.r rfl rfl rfl rfl (grd_move rfl rfl) ?_
      refine GOps.r rfl rfl rfl rfl (grd_not rfl rfl) ?_
      refine GOps.nil ?_
      refine GWP.cond_t rfl ?_ ?_
      · simp; done
      refine GWP.seq ?_
      refine GWP.region ?_
      refine GOps.r rfl rfl rfl rfl (grd_move rfl rfl) ?_
      refine GOps.r rfl rfl rfl rfl (grd_eql rfl rfl rfl) ?_
      refine GOps.r rfl rfl rfl rfl (grd_move rfl rfl) ?_
      refine GOps.take rfl rfl ?_ ?_
      · simp; done
      refine GOps.r rfl rfl rfl rfl (grd_move rfl rfl) ?_
      refine GOps.take rfl rfl ?_ ?_
      · simp; done
      refine GOps.r rfl rfl rfl rfl (grd_len tab_is rfl rfl rfl rfl rfl) ?_
      refine GOps.take rfl rfl ?_ ?_
      · simp; done
      refine GOps.r rfl rfl rfl rfl (grd_eql rfl rfl rfl) ?_
      refine GOps.r rfl rfl rfl rfl (grd_pick_t rfl rfl ?_ rfl) ?_
      · exact decide_eq_true (by omega)
      refine GOps.r rfl rfl rfl rfl (grd_assign rfl rfl) ?_
      refine GOps.nil ?_
      refine GWP.ret ?_
      refine ⟨_, .one rfl, ?_⟩
      · rfl
end Go.Proofs.YtjoblmdfbddkeaaDoor

/- Any label's block: what came in. -/
namespace Go.Proofs.YtjoblmdfbddkeaaDoor
open Go.RowKit Go.ChangeShapes Go.WideShapes Go.ChangeAt

theorem list3L {α : Type} {l : List α} (h : l.length = 3) : ∃ a b c, l = [a, b, c] := by
  match l, h with
  | [a, b, c], _ => exact ⟨a, b, c, rfl⟩
theorem bytes_list (s : ByteArray) : (⟨s.data.toList.toArray⟩ : ByteArray) = s := by
  cases s
  simp
/-- A label that came in. -/
theorem open_label {X : Type} {enc : TypeId × Value → X} {w : World} {v : Value} {d : DataW X} {p : List MemPlace} (hv : Value.okWide Tryd.prog w .any 0 25 v) (h : DataW.Trod enc Tryd.prog w 0 (fun _ => true) true 25 v d p) :
    ∃ (S : List UInt8) (g n : Int), v = labV S g n ∧ S.length ∈ d.weights Tryd.prog 25 := by
  obtain ⟨cs, rfl, hsz⟩ := okWide_struct Tryd.underlying25 hv
  obtain ⟨fuel, hf⟩ := h
  obtain ⟨xs, m, rfl, hx, hl, hxl, hs⟩ := DataW.trod_struct Tryd.underlying25 hf
  injection hx with hd hp
  have hc : Tryd.prog.cellsOf 25 = 3 := by kernel_rfl
  rw [hc] at hl
  obtain ⟨c0, c1, c2, hcs⟩ := list3L hl
  obtain ⟨x0, x1, x2, rfl⟩ := list3L hxl
  simp only [Value.cells] at hs hcs
  rw [hcs] at hs
  have t0 := hs 0 _ rfl
  have t1 := hs 1 _ rfl
  have t2 := hs 2 _ rfl
  obtain ⟨S, q0, e0, _⟩ := DataW.trod_string Tryd.underlying9 (trod_cs [c0] (by kernel_rfl) t0)
  obtain ⟨n1, q1, _, w1⟩ := DataW.trod_int Tryd.underlying3 (trod_cs [c1] (by kernel_rfl) t1)
  obtain ⟨n2, q2, _, w2⟩ := DataW.trod_int Tryd.underlying3 (trod_cs [c2] (by kernel_rfl) t2)
  simp only [List.cons.injEq, and_true] at q0 q1 q2
  subst q0 q1 q2 e0 hd
  refine ⟨S.data.toList, n1, n2, ?_, ?_⟩
  · unfold labV
    rw [bytes_list]
    exact congrArg Value.agg (Array.ext' hcs)
  · unfold DataW.weights
    rw [Tryd.underlying25]
    exact DataW.weights_mem_each (j := 0) rfl rfl _ (by simp [DataW.weights])
theorem labelBytes_walk (S : List UInt8) (T : ByteArray) (g n : Int) (hS : S.length ≤ 140737488351232) (hT : T.data.toList.length ≤ 140737488351232) (W : World) :
    Calls Tryd.prog 4 #[labV S g n, .string T] W fun e w' => e = .returned (.bool true) ∧ Below W.heap.size W w' := by
  have hb : T = ⟨T.data.toList.toArray⟩ := (bytes_list T).symm
  rw [hb]
  unfold labV
  refine ((g_labelBytes [] S T.data.toList g n hS hT).enter (SimH.nothing W) (.cons (.agg (.cons (VR.plain rfl) (.cons (VR.plain rfl) (.cons (VR.plain rfl) .nil)))) (.cons (VR.plain rfl) .nil)) (R := fun u => u = .bool true) (fun v hv => by rw [hv]; rfl)).mono ?_
  rintro e w' ⟨v, rfl, rfl, q⟩
  exact ⟨rfl, q⟩
end Go.Proofs.YtjoblmdfbddkeaaDoor
