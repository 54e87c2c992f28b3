/- The ghost walk: stores, new variables, slices made. Over any program. -/
import Derived.Test.YtcbngjpihcemiaaGs
import Derived.Laws.CopyOwn
namespace Go.Proofs.Ytcbngjpihcemiaa
open Go.RowKit

/-- Cells stored, one behind the other. -/
def gsets : List Value → Nat → List Value → List Value
  | cs, _, [] => cs
  | cs, o, v :: vs => gsets (cs.set o v) (o + 1) vs
theorem gsets_splice : ∀ (vs cs : List Value) (o : Nat), o + vs.length ≤ cs.length → gsets cs o vs = splice cs o vs
  | [], cs, o, _ => by simp [gsets, splice]
  | v :: vs, cs, o, h => by
    simp only [List.length_cons] at h
    rw [gsets, gsets_splice vs (cs.set o v) (o + 1) (by rw [List.length_set]; omega)]
    unfold splice
    have h1 : (cs.set o v).take (o + 1) = cs.take o ++ [v] := by
      rw [List.take_succ_eq_append_getElem (by rw [List.length_set]; omega), List.getElem_set_self, List.take_set_of_le (by omega)]
    have h2 : (cs.set o v).drop (o + 1 + vs.length) = cs.drop (o + (vs.length + 1)) := by
      rw [List.drop_set_of_lt (by omega)]
      congr 1
      omega
    rw [h1, h2]
    simp
theorem Hp.put_put (H : Hp) (j : Nat) (b c : Blk) : (H.put j b).put j c = H.put j c := by simp [Hp.put]
theorem Hp.at_push_id {H : Hp} {b : Blk} {i : Nat} (h : i = H.length) : (H.push b).at i = some b := by rw [h]; exact Hp.at_push_eq
theorem Hp.at_put_id {H : Hp} {b : Blk} {i j : Nat} (h : i = j) (hl : j < H.length) : (H.put i b).at j = some b := by rw [h]; exact Hp.at_put_eq hl
theorem Hp.push_put (H : Hp) (b c : Blk) : (H.push b).put H.length c = H.push c := by simp [Hp.push, Hp.put]
/-- A heap behind another one: only the blocks F of it may be otherwise. -/
structure HExt (F : List Nat) (H H' : Hp) : Prop where
  len : H.length ≤ H'.length
  eq : ∀ i, i < H.length → i ∉ F → H'.at i = H.at i
section
variable {F G : List Nat} {H H1 H2 : Hp} {b : Blk} {i : Nat}
theorem HExt.refl (F : List Nat) (H : Hp) : HExt F H H := ⟨Nat.le_refl _, fun _ _ _ => rfl⟩
theorem HExt.push (h : HExt F H H1) : HExt F H (H1.push b) := ⟨by have := h.len; simp; omega, fun i hi hn => (Hp.at_push_lt (by have := h.len; omega)).trans (h.eq i hi hn)⟩
theorem HExt.put (h : HExt F H H1) (hi : i ∈ F ∨ H.length ≤ i) : HExt F H (H1.put i b) := ⟨by simpa using h.len, fun j hj hn => (Hp.at_put_ne (by
  rintro rfl
  rcases hi with hi | hi
  · exact hn hi
  · omega)).trans (h.eq j hj hn)⟩
theorem HExt.kill (h : HExt F H H1) (hi : i ∈ F ∨ H.length ≤ i) : HExt F H (H1.kill i) := ⟨by simpa using h.len, fun j hj hn => (Hp.at_kill_ne (by
  rintro rfl
  rcases hi with hi | hi
  · exact hn hi
  · omega)).trans (h.eq j hj hn)⟩
theorem HExt.tr (h : HExt F H H1) (k : HExt G H1 H2) (hG : ∀ i ∈ G, i ∈ F ∨ H.length ≤ i) : HExt F H H2 := ⟨Nat.le_trans h.len k.len, fun i hi hn => (k.eq i (Nat.lt_of_lt_of_le hi h.len) (fun hm => by
  rcases hG i hm with h1 | h1
  · exact hn h1
  · omega)).trans (h.eq i hi hn)⟩
end
theorem Hp.put_self {H : Hp} {j : Nat} {b : Blk} (h : H.at j = some b) : H.put j b = H := by
  have hlt := Hp.at_lt h
  unfold Hp.put
  apply List.ext_getElem?
  intro k
  by_cases e : j = k
  · subst e
    rw [List.getElem?_set_self hlt]
    unfold Hp.at at h
    cases hk : H[j]? with
    | none => rw [hk] at h; cases h
    | some x =>
      rw [hk] at h
      simp only [Option.getD_some] at h
      rw [h]
  · rw [List.getElem?_set_ne e]
section
variable {P : Program} {μ : Ren} {H : Hp} {w : World}
theorem run_store1 {g o : Nat} {rs : Array Value} {t : TypeId} {fz : Nat × Nat} {v : Value} (h : w.heap[g]? = some (.cells rs t fz)) (hf : FzOk fz rs.size) (ho : o < rs.size) (h1 : v.oneCell' = true) :
    (store ⟨g, o, none⟩ v).run P w = .ok () (w.setCell ⟨g, o, none⟩ v) := by
  have hc := real_load h (Array.getElem?_eq_getElem ho)
  have hz := real_free h hf ho
  cases v <;> first | (simp [store, Sem.run, hc, hz]; done) | cases h1
theorem SimH.sets : ∀ (vs vs' : List Value) (H : Hp) (w : World) (j off : Nat) (b : Blk) (L : Loc), SimH μ H w → H.at j = some b → b.rw = true → off + vs.length ≤ b.cs.length → VRs μ vs vs' → (∀ v ∈ vs, v.oneCell' = true) → μ j = some L →
    ∃ w', (∀ k, (storeCells ⟨L.g, L.d + off - k, none⟩ vs' k).run P w = .ok () w' ∨ L.d + off < k ∨ (k = 0 → False) ∧ False) ∧ SimH μ (H.put j { b with cs := gsets b.cs off vs }) w' ∧ Frm w w' [L.g] ∧ w'.heap.size = w.heap.size := by
  intro vs
  induction vs with
  | nil =>
    intro vs' H w j off b L hs hb hrw hl hv h1 hL
    cases hv
    refine ⟨w, fun k => .inl rfl, ?_, Frm.refl _ _, rfl⟩
    show SimH μ (H.put j b) w
    rw [Hp.put_self hb]
    exact hs
  | cons v vs ih =>
    intro vs' H w j off b L hs hb hrw hl hv h1 hL
    simp only [List.length_cons] at hl
    cases hv with
    | cons hv hvs =>
      rename_i v' vs'
      have hs1 := hs.set hb hrw (o := off) (by omega) hv (h1 v (by simp)) hL
      obtain ⟨M, rs, t, fz, q1, q2, q3, q4, q5, q6, q7⟩ := hs.dom j b hb
      rw [hL] at q1
      injection q1 with q1
      subst q1
      have hlt := Hp.at_lt hb
      have hrs := q6.len (by omega)
      have hst := run_store1 (P := P) q3 (q4 hrw) (o := L.d + off) (v := v') (by omega) (hv.one (h1 v (by simp)))
      obtain ⟨w2, e1, e2, e3, e4⟩ := ih vs' _ _ j (off + 1) { b with cs := b.cs.set off v } L hs1 (Hp.at_put_eq hlt) hrw (by rw [List.length_set]; omega) hvs (fun u hu => h1 u (by simp [hu])) hL
      have hF : Frm w (w.setCell ⟨L.g, L.d + off, none⟩ v') [L.g] := (Frm.refl w [L.g]).put (.inl (by simp)) v'
      refine ⟨w2, fun k => ?_, ?_, hF.trans e3, e4.trans (by simp [World.setCell])⟩
      · rcases Nat.lt_or_ge (L.d + off) k with hk | hk
        · exact .inr (.inl hk)
        · left
          have e5 := e1 (k + 1)
          rw [show L.d + (off + 1) - (k + 1) = L.d + off - k by omega] at e5
          rcases e5 with e5 | e5 | ⟨_, e5⟩
          · have ha : (⟨L.g, L.d + off - k, none⟩ : Addr).add k = ⟨L.g, L.d + off, none⟩ := by
              rw [addr_add]
              congr 1
              omega
            simp only [storeCells, Sem.run_bind, ha, hst, Result.andThen_ok]
            exact e5
          · omega
          · exact e5.elim
      · rw [Hp.put_put] at e2
        exact e2
theorem SimH.store {vs vs' : List Value} {j off : Nat} {b : Blk} {L : Loc} (hs : SimH μ H w) (hb : H.at j = some b) (hrw : b.rw = true) (hl : off + vs.length ≤ b.cs.length) (hv : VRs μ vs vs') (h1 : ∀ v ∈ vs, v.oneCell' = true) (hL : μ j = some L) :
    ∃ w', (storeCells ⟨L.g, L.d + off, none⟩ vs').run P w = .ok () w' ∧ SimH μ (H.put j { b with cs := splice b.cs off vs }) w' ∧ Frm w w' [L.g] ∧ w'.heap.size = w.heap.size := by
  obtain ⟨w', e1, e2, e3, e4⟩ := SimH.sets (P := P) vs vs' H w j off b L hs hb hrw hl hv h1 hL
  rw [gsets_splice _ _ _ hl] at e2
  rcases e1 0 with e1 | e1 | ⟨_, e1⟩
  · exact ⟨w', e1, e2, e3, e4⟩
  · omega
  · exact e1.elim
end
section
variable {P : Program} {T : Tab} {C : Ctx} {o : Oper} {env : Env} {H : Hp} {x y : Operand} {t : TypeId} {i : TyI}
/-- The heap may be put aside for another one. -/
theorem Sim.put {w0 w w' : World} {Fr : List Nat} {μ0 μ : Ren} {H' : Hp} {j : Nat} {L : Loc} (s : Sim C w0 Fr μ0 μ H w) (hL : μ j = some L) (hm : C.may j) (h : SimH μ H' w') (hF : Frm w w' [L.g]) (hl : H'.length = H.length) : Sim C w0 Fr μ0 μ H' w' :=
  ⟨h, s.ext, s.frm.tr hF (fun g hg => by
    rw [List.mem_singleton] at hg
    subst hg
    exact s.may hm hL), s.old, s.new, by rw [hl]; exact s.len, s.back⟩
theorem Sim.push {w0 w w' : World} {Fr : List Nat} {μ0 μ : Ren} {b : Blk} {L : Loc} (s : Sim C w0 Fr μ0 μ H w) (h : SimH (μ.upd H.length L) (H.push b) w') (hF : Frm w0 w' Fr) (hg : L.g ∈ Fr ∨ w0.heap.size ≤ L.g) : Sim C w0 Fr μ0 (μ.upd H.length L) (H.push b) w' := by
  refine ⟨h, s.ext.trans (s.h.fresh L), hF, fun i hi => ⟨(s.old i hi).1, fun M hM => ?_⟩, fun i M hn hM => ?_, by rw [Hp.len_push]; have := s.len; omega, fun i M hi hM => ?_⟩
  · by_cases e : i = H.length
    · subst e
      have := s.len
      have := (s.old _ hi).1
      omega
    · rw [Ren.upd_ne _ _ e] at hM
      exact (s.old i hi).2 M hM
  · by_cases e : i = H.length
    · subst e
      rw [Ren.upd_eq] at hM
      injection hM with hM
      subst hM
      exact hg
    · rw [Ren.upd_ne _ _ e] at hM
      exact s.new i M hn hM
  · have := s.len
    rw [Ren.upd_ne _ _ (by omega)] at hM
    exact s.back i M hi hM
end
end Go.Proofs.Ytcbngjpihcemiaa
