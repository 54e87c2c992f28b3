/- Contracts of the elder kind, of functions of bytes, lifted. Over any program. -/
import Derived.Test.YtcbngjpihcemiaaBs
namespace Go.Proofs.Ytcbngjpihcemiaa
open Go.RowKit

section
variable {P : Program} {w w' : World} {μ : Ren} {H : Hp}
/-- A slice of bytes, in the real world. -/
theorem bs_real {p : Option Addr} {n c : Nat} {L : List UInt8} (h : BS H (.slice p n c) L) (hs : SimH μ H w) {rv : Value} (hv : VR μ (.slice p n c) rv) : ∃ A c', rv = .slice A n c' ∧ L.length = n ∧ n ≤ c' ∧ c' ≤ maxLen ∧ (A = none → n = 0) ∧ Rd w w.heap.size A (vb L) := by
  cases h with
  | none =>
    cases hv
    exact ⟨none, 0, rfl, rfl, Nat.le_refl _, Nat.zero_le _, fun _ => rfl, Rd.nil_ _ _ _⟩
  | some hb hx hl ho hu =>
    rename_i j off t rw cs
    cases hv with
    | sl hL hn hm hc hu ha =>
      rename_i c' a M
      refine ⟨some a, c', rfl, hl, hn, hm, (fun h => by cases h), ?_⟩
      obtain ⟨M2, l', q1, q2, q3, q4⟩ := hs.run hb off n (by simpa using ho)
      rw [hL] at q1
      injection q1 with q1
      subst q1
      simp only [hx] at q2
      have q5 := q2.bytes
      subst q5
      intro k u hu
      have hk : 0 < c' := by
        have := (List.getElem?_eq_some_iff.1 hu).1
        rw [vb_length] at this
        omega
      obtain rfl := ha hk
      exact ⟨M.g, M.d + off, rfl, (hs.len _ _ hL).2, q4 k u hu⟩
/-- A call that only reads, lifted. -/
theorem GCalls.plain1 {f : FuncId} {p : Option Addr} {n c : Nat} {L : List UInt8} {u : Value} (hb : BS H (.slice p n c) L) (hu : ∀ μ, VR μ u u)
    (h : ∀ (A : Option Addr) (c' : Nat) (w : World), L.length = n → n ≤ c' → c' ≤ maxLen → (A = none → n = 0) → Rd w w.heap.size A (vb L) → Calls P f #[.slice A n c'] w fun e w' => e = .returned u ∧ Below w.heap.size w w') : GCalls P f [.slice p n c] [] H (fun v H' => v = u ∧ H' = H) := by
  refine (GCalls.of (R := fun v => v = u) fun μ w rargs hs hv => ?_).mono fun _ _ h => h
  obtain ⟨rv, rfl, hv2⟩ : ∃ rv, rargs = #[rv] ∧ VR μ (.slice p n c) rv := by
    cases rargs with
    | mk l =>
      simp only at hv
      cases hv with
      | cons h1 h2 =>
        cases h2
        exact ⟨_, rfl, h1⟩
  obtain ⟨A, c', rfl, q1, q2, q3, q4, q5⟩ := bs_real hb hs hv2
  exact (h A c' w q1 q2 q3 q4 q5).mono fun e w' ⟨e1, e2⟩ => ⟨u, u, e1, rfl, hu _, e2⟩
/-- A new row of its own, in the ghost heap. -/
theorem SimH.own (hs : SimH μ H w) (hb : Below w.heap.size w w') {e n : Nat} {v : Value} {L : List UInt8} (hr : w'.ownsRow w.heap.size e 1 v n (vb L)) (hn : 0 < n) :
    ∃ M : Loc, w.heap.size ≤ M.g ∧ SimH (μ.upd H.length M) (H.push ⟨e, 1, vb L, true⟩) w' ∧ VR (μ.upd H.length M) (.slice (some ⟨H.length, 0, none⟩) n capU) v := by
  obtain ⟨hl, h | ⟨g, cap, cur, rfl, hg, hc, h1, h2, h3, h4⟩⟩ := hr
  · omega
  · have he := hs.fresh ⟨g, 0, cap, 1⟩
    refine ⟨⟨g, 0, cap, 1⟩, hg, ?_, .sl (Ren.upd_eq _ _ _) h1 h2 (fun h => by unfold maxLen at h2; unfold capU at h; omega) (fun _ => by simp) (fun _ => rfl)⟩
    refine hs.add (by exact hb.size) ⟨e, 1, vb L, true⟩ ⟨g, 0, cap, 1⟩ cur e (0, 0) rfl hc (.inl rfl) (by simpa using h3) (fun j u hj => ?_) (fun u hu => List.all_eq_true.1 (all_vb L) u hu) (fun i c M hi hM => ?_)
    · refine ⟨u, ?_, VR.plain (vb_plain L u (List.mem_of_getElem? hj))⟩
      rw [← h4, List.getElem?_take] at hj
      split at hj
      · simpa using hj
      · cases hj
    · have := (hs.len i M hM).2
      exact ⟨by simp only; omega, hb.block _ this⟩
/-- Bytes in a row of its own, or none. -/
theorem SimH.ownB (hs : SimH μ H w) (hb : Below w.heap.size w w') {e n : Nat} {v : Value} {L : List UInt8} (hr : w'.ownsRow w.heap.size e 1 v n (vb L)) :
    ∃ μ' H' p c, SimH μ' H' w' ∧ Ext' μ μ' ∧ HExt [] H H' ∧ BS H' (.slice p n c) L ∧ VR μ' (.slice p n c) v ∧ (∀ i M, H.length ≤ i → μ' i = some M → w.heap.size ≤ M.g) ∧ ∀ i M, i < H.length → μ' i = some M → μ i = some M := by
  have hl : L.length = n := by have := hr.1; simpa using this
  rcases hr.2 with ⟨rfl, rfl⟩ | hr2
  · obtain rfl : L = [] := List.eq_nil_of_length_eq_zero hl
    exact ⟨μ, H, none, 0, hs.below hb, Ext'.refl μ, HExt.refl _ _, .none, .sl0, fun i M hi hM => by have := (hs.len i M hM).1; omega, fun _ _ _ h => h⟩
  · obtain ⟨g, cap, cur, rfl, hg, hc, h1, h2, h3, h4⟩ := hr2
    have he := hs.fresh ⟨g, 0, cap, 1⟩
    refine ⟨_, _, some ⟨H.length, 0, none⟩, capU, hs.add (by exact hb.size) ⟨e, 1, vb L, true⟩ ⟨g, 0, cap, 1⟩ cur e (0, 0) rfl hc (.inl rfl) (by simpa using h3) (fun j u hj => ?_) (fun u hu => List.all_eq_true.1 (all_vb L) u hu) (fun i c M hi hM => ?_), he, (HExt.refl _ _).push, bs_push rfl hl.symm, .sl (Ren.upd_eq _ _ _) h1 h2 (fun h => by unfold maxLen at h2; unfold capU at h; omega) (fun _ => by simp) (fun _ => by simp), fun i M hi hM => ?_, fun i M hi hM => ?_⟩
    · refine ⟨u, ?_, VR.plain (vb_plain L u (List.mem_of_getElem? hj))⟩
      rw [← h4, List.getElem?_take] at hj
      split at hj
      · simpa using hj
      · cases hj
    · have := (hs.len i M hM).2
      exact ⟨by simp only; omega, hb.block _ this⟩
    · by_cases e : i = H.length
      · subst e
        rw [Ren.upd_eq] at hM
        injection hM with hM
        subst hM
        exact hg
      · rw [Ren.upd_ne _ _ e] at hM
        have := (hs.len i M hM).1
        omega
    · rw [Ren.upd_ne _ _ (by omega)] at hM
      exact hM
/-- A call that makes a row, lifted. -/
theorem GCalls.own1 {f : FuncId} {p : Option Addr} {n c m e : Nat} {L M : List UInt8} (hb : BS H (.slice p n c) L) (hm : 0 < m)
    (h : ∀ (A : Option Addr) (c' : Nat) (w : World), L.length = n → n ≤ c' → c' ≤ maxLen → (A = none → n = 0) → Rd w w.heap.size A (vb L) → Calls P f #[.slice A n c'] w fun e' w' => ∃ v, e' = .returned v ∧ w'.ownsRow w.heap.size e 1 v m (vb M) ∧ Below w.heap.size w w') :
    GCalls P f [.slice p n c] [] H (fun v H' => v = .slice (some ⟨H.length, 0, none⟩) m capU ∧ H' = H.push ⟨e, 1, vb M, true⟩) := fun μ w rargs hs hv => by
  obtain ⟨rv, rfl, hv2⟩ : ∃ rv, rargs = #[rv] ∧ VR μ (.slice p n c) rv := by
    cases rargs with
    | mk l =>
      simp only at hv
      cases hv with
      | cons h1 h2 =>
        cases h2
        exact ⟨_, rfl, h1⟩
  obtain ⟨A, c', rfl, q1, q2, q3, q4, q5⟩ := bs_real hb hs hv2
  refine (h A c' w q1 q2 q3 q4 q5).mono ?_
  rintro e' w' ⟨v, rfl, k1, k2⟩
  obtain ⟨M', g1, g2, g3⟩ := hs.own k2 k1 hm
  exact ⟨_, v, _, _, rfl, ⟨rfl, rfl⟩, g3, g2, hs.fresh _, Frm.of_below k2 _, fun i L hi hL => by
    by_cases e : i = H.length
    · subst e
      rw [Ren.upd_eq] at hL
      injection hL with hL
      subst hL
      exact .inr g1
    · rw [Ren.upd_ne _ _ e] at hL
      have := (hs.len i L hL).1
      omega, by simp, fun i L hi hL => by rw [Ren.upd_ne _ _ (by omega)] at hL; exact hL⟩
end
end Go.Proofs.Ytcbngjpihcemiaa
