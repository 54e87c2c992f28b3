/- The ghost walk: regions that draw their order, of which the last operations come last. Over any program. -/
import Derived.Test.YtcbngjpihcemiaaGm
import Derived.StillTail
namespace Go.Proofs.Ytcbngjpihcemiaa
open Go.RowKit

theorem still_of_quiet {P : Program} {ops : Array Oper} {w : World} {K : Act → Prop} : ∀ (l : List Oper) (a : Act), wpQuiet P ops (fun x => x = w) K l a → wpStill P ops w K l a
  | [], _, h => h
  | o :: l, a, h => by
    unfold wpQuiet at h
    unfold wpStill
    split at h
    · rename_i hw
      rw [if_pos hw]
      obtain ⟨v, hv, hk⟩ := h
      have h1 := hv w rfl
      unfold Oper.quietAt at h1
      unfold Oper.still
      have ih := still_of_quiet l _ hk
      revert h1
      generalize (execOp a.eval o).run P w = r
      intro h1
      unfold Oper.quietUpon at h1
      unfold Oper.stillUpon
      split at h1
      · obtain ⟨rfl, rfl⟩ := h1
        exact ⟨rfl, ih⟩
      · obtain ⟨rfl, rfl⟩ := h1
        exact ⟨rfl, ih⟩
      · obtain ⟨rfl, h2⟩ := h1
        exact ⟨rfl, v, h2, ih⟩
      · exact h1.elim
    · rename_i hw
      rw [if_neg hw]
      exact still_of_quiet l _ h
theorem GWP.drawT {P : Program} {N : Nat} {C : Ctx} {Q : Exit → Env → Hp → Prop} {env : Env} {H : Hp} {id : Nat} {l : List Oper} (n : Nat) {L M : List Oper} (hm : P.follows .mixedOrders = true) (hB : Region.lexTailB .any l.toArray n = true) (hL : l.take n = L) (hM : l.drop n = M)
    (h : GQ P N C l.toArray true [] (fun env' => GOps P N C l.toArray Q M env' H) L env H) : GWP P N C (.region id l.toArray true) Q env H := fun w0 Fr μ0 μ a w hs' he => by
  subst hL hM
  have hs2 : Sim C w0 Fr μ0 μ H w.drew := ⟨hs'.h.drew, hs'.ext, hs'.frm.drew, hs'.old, hs'.new, hs'.len, hs'.back⟩
  exact wp_region_still_tail n hm hB (still_of_quiet _ _ (h w0 Fr μ0 μ a w.drew _ hs2 he fun env' a' he' hk => hk w0 Fr μ0 μ a' w.drew hs2 he'))
theorem GPcs.sto {P : Program} {N : Nat} {C : Ctx} {Q : Exit → Env → Hp → Prop} {env : Env} {H : Hp} {ops : Array Oper} {tl : Bool} {Prt : List Nat} {o : Oper} {segs : List Seg} {i j : Nat} {b : Bool} {v0 : Value} {H0 : Hp} (tl2 : Bool) (Prt2 : List Nat) (ho : ops[i]? = some o) (hw : gwant ops env o = some b) (hb : b = true) (hd : o.dst = none) (h : GOp P ⟨[j], H.length⟩ o env H (fun v H' => v = v0 ∧ H' = H0))
    (htl : tl = false) (hF : ∀ q ∈ [j], ∃ c, H.at q = some c ∧ c.rw = true) (hm : C.may j) (hP : ∀ q ∈ Prt, (∃ c, H.at q = some c) ∧ q ∉ [j]) (hP2 : ∀ q ∈ Prt, q ∈ Prt2)
    (hp : ∀ q ∈ Prt2, q < H0.length) (k : GPcs P N C ops Q tl2 Prt2 segs env H0) : GPcs P N C ops Q tl Prt (.write i :: segs) env H := fun w0 Fr μ0 μ a w hs he hpp => by
  subst htl
  obtain ⟨c0, hc0, hrw0⟩ := hF j (by simp)
  refine wpPcs_write ho fun K hK => ?_
  rw [gwant_real he hw, if_pos hb]
  refine (GOpF.of (C := C) [j] (fun q hq => by rw [List.mem_singleton.1 hq]; exact Hp.at_lt hc0) (fun q hq => by rw [List.mem_singleton.1 hq]; exact hm) h) N w0 Fr μ0 μ a w K _ hs he fun v rv H' w' μ' hR hs' hx hv hfr hl hbk => ?_
  obtain ⟨rfl, rfl⟩ := hR
  have hfar : ∀ q ∈ Prt, ∀ L, μ q = some L → w'.heap[L.g]? = w.heap[L.g]? := fun q hq L hL => by
    obtain ⟨⟨c, hc⟩, hjF⟩ := hP q hq
    refine hfr.block _ (hs.h.len q L hL).2 fun hm => ?_
    obtain ⟨r, M, q1, q2, q3⟩ := img_mem hm
    obtain ⟨c', hc', hrw⟩ := hF r q1
    have := hs.h.inj r q c' c M L hc' hc q2 hL q3 (.inl hrw)
    subst this
    exact hjF q1
  have hsub : ∀ x, Cl μ' Prt2 w' x → Cl μ Prt w x := fun x hx2 q hq L hL => (hx2 q (hP2 q hq) L (hx q L hL)).trans (hfar q hq L hL)
  have hER := he.mono hx
  have ha : a.put o.dst rv = a := by rw [hd]; rfl
  rw [ha]
  refine hK (Cw tl2 μ' Prt2 w') _ w' (fun x hx2 => ?_) (Cw.self _ _ _ _) (k w0 Fr μ0 μ' _ w' hs' hER hp)
  show Cl μ Prt w x
  cases tl2 with
  | true =>
    obtain rfl : x = w' := hx2
    exact hfar
  | false => exact hsub x hx2
/-- One that writes comes up; the blocks in which reads may float behind are chosen behind it. -/
theorem GPcs.writeD {P : Program} {N : Nat} {C : Ctx} {Q : Exit → Env → Hp → Prop} {env : Env} {H : Hp} {ops : Array Oper} {tl : Bool} {Prt : List Nat} {o : Oper} {segs : List Seg} {i : Nat} {b : Bool} {d : Nat} {F : List Nat} {R : Value → Hp → Prop} (tl2 : Bool) (ho : ops[i]? = some o) (hw : gwant ops env o = some b) (hb : b = true) (hd : o.dst = some d) (hN : Nat.blt d N = true) (h : GOpF P C o env F H R)
    (htl : tl = false) (hF : ∀ j ∈ F, ∃ c, H.at j = some c ∧ c.rw = true) (hP : ∀ j ∈ Prt, (∃ c, H.at j = some c) ∧ j ∉ F)
    (k : ∀ v H', R v H' → ∃ Prt2 : List Nat, (∀ j ∈ Prt, j ∈ Prt2) ∧ (∀ j ∈ Prt2, j < H'.length) ∧ GPcs P N C ops Q tl2 Prt2 segs ((d, v) :: env) H') : GPcs P N C ops Q tl Prt (.write i :: segs) env H := fun w0 Fr μ0 μ a w hs he hp => by
  subst htl
  refine wpPcs_write ho fun K hK => ?_
  rw [gwant_real he hw, if_pos hb]
  refine h N w0 Fr μ0 μ a w K _ hs he fun v rv H' w' μ' hR hs' hx hv hfr hl hbk => ?_
  obtain ⟨Prt2, hP2, k1, k2⟩ := k v H' hR
  have hfar : ∀ j ∈ Prt, ∀ L, μ j = some L → w'.heap[L.g]? = w.heap[L.g]? := fun j hj L hL => by
    obtain ⟨⟨c, hc⟩, hjF⟩ := hP j hj
    refine hfr.block _ (hs.h.len j L hL).2 fun hm => ?_
    obtain ⟨q, M, q1, q2, q3⟩ := img_mem hm
    obtain ⟨c', hc', hrw⟩ := hF q q1
    have := hs.h.inj q j c' c M L hc' hc q2 hL q3 (.inl hrw)
    subst this
    exact hjF q1
  have hsub : ∀ x, Cl μ' Prt2 w' x → Cl μ Prt w x := fun x hx2 j hj L hL => (hx2 j (hP2 j hj) L (hx j L hL)).trans (hfar j hj L hL)
  have hER := (he.mono hx).put (d := d) (by rw [← Nat.blt_eq]; exact hN) hv
  rw [← hd] at hER
  refine hK (Cw tl2 μ' Prt2 w') _ w' (fun x hx2 => ?_) (Cw.self _ _ _ _) (k2 w0 Fr μ0 μ' _ w' hs' (by rw [hd] at hER ⊢; exact hER) k1)
  show Cl μ Prt w x
  cases tl2 with
  | true =>
    obtain rfl : x = w' := hx2
    exact hfar
  | false => exact hsub x hx2
end Go.Proofs.Ytcbngjpihcemiaa
