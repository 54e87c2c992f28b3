/- A block hidden from a call. Over any program. -/
import Derived.Test.YtcbngjpihcemiaaLf
namespace Go.Proofs.Ytcbngjpihcemiaa
open Go.RowKit

section
variable {P : Program} {H : Hp}
/-- What a call does where a block is forgotten, it does where it is known; and that block stays as it is. -/
theorem GCalls.hide {f : FuncId} {args : List Value} {F : List Nat} {R : Value → Hp → Prop} {j : Nat} {b : Blk} (hb : H.at j = some b) (hF : ∀ i ∈ F, i ≠ j ∧ ∃ c, H.at i = some c ∧ (b.rw = true ∨ c.rw = true)) (h : GCalls P f args F (H.kill j) R) (hx : ∀ v H', R v H' → HExt F (H.kill j) H') : GCalls P f args F H (fun v H' => ∃ H1, R v H1 ∧ H1.at j = none ∧ H' = H1.put j b) := fun μ w rargs hs hv => by
  have hlt := Hp.at_lt hb
  refine (h μ w rargs (hs.kill j) hv).mono ?_
  rintro e w' ⟨v, rv, H1, μ', q1, q2, q3, q4, q5, q6, q7, q8, q9⟩
  have hk := hx _ _ q2
  have hlk : (H.kill j).length = H.length := Hp.len_kill
  rw [hlk] at q7 q8 q9
  have hj : H1.at j = none := by rw [hk.eq j (by rw [hlk]; exact hlt) (fun hm => (hF j hm).1 rfl), Hp.at_kill_eq]
  obtain ⟨L, rs, t, fz, d1, d2, d3, d4, d5, d6, d7⟩ := hs.dom j b hb
  have hni : L.g ∉ img μ F := fun hm => by
    obtain ⟨i, M, m1, m2, m3⟩ := img_mem hm
    obtain ⟨n1, c, n2, n3⟩ := hF i m1
    exact n1 (hs.inj i j c b M L n2 hb m2 d1 m3 n3.symm)
  have hL := (hs.len j L d1).2
  have key : ∀ k c' M', k ≠ j → H1.at k = some c' → μ' k = some M' → L.g = M'.g → (b.rw = true ∨ c'.rw = true) → False := fun k c' M' hne hc hM hg hr => by
    rcases Nat.lt_or_ge k H.length with h1 | h1
    · have hm := q9 k M' h1 hM
      by_cases hkF : k ∈ F
      · exact hni (by rw [hg]; exact mem_img hkF hm)
      · rw [hk.eq k (by rw [hlk]; exact h1) hkF, Hp.at_kill_ne (Ne.symm hne)] at hc
        exact hne (hs.inj j k b c' L M' hb hc d1 hm hg hr).symm
    · rcases q7 k M' h1 hM with h2 | h2
      · exact hni (by rw [hg]; exact h2)
      · omega
  refine ⟨v, rv, H1.put j b, μ', q1, ⟨H1, q2, hj, rfl⟩, q3, ⟨fun i c hc => ?_, fun i M hM => ?_, fun i k c c' M M' hi hk' hM hM' hg hr => ?_⟩, q5, q6, q7, by rw [Hp.len_put]; exact q8, q9⟩
  · by_cases e1 : j = i
    · subst e1
      rw [Hp.at_put_eq (by omega)] at hc
      injection hc with hc
      subst hc
      exact ⟨L, rs, t, fz, q5 _ _ d1, d2, (q6.block _ hL hni).trans d3, d4, d5, d6.mono q5, d7⟩
    · rw [Hp.at_put_ne e1] at hc
      exact q4.dom i c hc
  · rw [Hp.len_put]
    exact q4.len i M hM
  · have hjL := q5 _ _ d1
    by_cases e1 : j = i
    · subst e1
      rw [hjL] at hM
      injection hM with hM
      subst hM
      rw [Hp.at_put_eq (by omega)] at hi
      injection hi with hi
      subst hi
      by_cases e2 : j = k
      · exact e2
      · rw [Hp.at_put_ne e2] at hk'
        exact (key k c' M' (Ne.symm e2) hk' hM' hg hr).elim
    · rw [Hp.at_put_ne e1] at hi
      by_cases e2 : j = k
      · subst e2
        rw [hjL] at hM'
        injection hM' with hM'
        subst hM'
        rw [Hp.at_put_eq (by omega)] at hk'
        injection hk' with hk'
        subst hk'
        exact (key i c M (Ne.symm e1) hi hM hg.symm hr.symm).elim
      · rw [Hp.at_put_ne e2] at hk'
        exact q4.inj i k c c' M M' hi hk' hM hM' hg hr
end
section
variable {H H1 : Hp} {j : Nat} {b : Blk} {v : Value} {L : List UInt8}
/-- Bytes elsewhere. -/
theorem bs_off (h : BS H1 v L) (hj : H1.at j = none) (b : Blk) : BS (H1.put j b) v L := by
  cases h with
  | none => exact .none
  | some hb hs hl ho hu => exact .some ((Hp.at_put_ne (by rintro rfl; rw [hj] at hb; cases hb)).trans hb) hs hl ho hu
/-- Bytes of a heap in which a block is forgotten. -/
theorem bs_unk {p : Option Addr} {n c : Nat} (h : BS H (.slice p n c) L) (hp : ∀ a, p = some a → a.block ≠ j) : BS (H.kill j) (.slice p n c) L := by
  cases h with
  | none => exact .none
  | some hb hs hl ho hu => exact .some ((Hp.at_kill_ne (Ne.symm (hp _ rfl))).trans hb) hs hl ho hu
theorem HExt.unkill {F : List Nat} (h : HExt F (H.kill j) H1) (hb : H.at j = some b) : HExt F H (H1.put j b) := by
  refine ⟨by rw [Hp.len_put]; have := h.len; rw [Hp.len_kill] at this; exact this, fun i hi hn => ?_⟩
  by_cases e : j = i
  · subst e
    rw [Hp.at_put_eq (by have := h.len; rw [Hp.len_kill] at this; omega), hb]
  · rw [Hp.at_put_ne e, h.eq i (by rw [Hp.len_kill]; exact hi) hn, Hp.at_kill_ne e]
end
end Go.Proofs.Ytcbngjpihcemiaa
