/- A region that draws its order, walked once: the very world at each writer, a class of worlds for what reads. Over any program. -/
import Derived.Test.YtcbngjpihcemiaaOr
import Derived.BigFrame
namespace Go.Proofs.Ytcbngjpihcemiaa

section
variable {P : Program} {ops : Array Oper} {Q : Exit → Act → World → Prop} {md : Region.Mode}

/-- The walk: what is read is the same in every world of the class; what writes is carried out in the world at hand. -/
def wpPcs (P : Program) (ops : Array Oper) (Q : Exit → Act → World → Prop) : List Seg → (World → Prop) → Act → World → Prop
  | [], _, a, w => Q .normal a w
  | .reads l :: rest, C, a, w => wpQuiet P ops C (fun a' => wpPcs P ops Q rest C a' w) (l.filterMap (ops[·]?)) a
  | .write i :: rest, C, a, w => wpOp P ops Q i (fun a' w' => ∃ C' : World → Prop, (∀ x, C' x → C x) ∧ C' w' ∧ wpPcs P ops Q rest C' a' w') a w

theorem reads_sound2 (hs : Region.noSelect ops = true) (hQ : ∀ c a d v w, Q (.panic c) (a.put d v) w → Q (.panic c) a w) {C : World → Prop} {K : Act → Prop} (fuel : Nat) {lst : Array Bool} (w : World) (hC : C w)
    (hK : ∀ a, K a → wpAnyH P md ops Q C fuel lst a w) : ∀ (l : List Nat) (listed : Array Bool) (a : Act), okReads md ops l listed = some lst →
    wpQuiet P ops C K (l.filterMap (ops[·]?)) a → wpAnyH P md ops Q C (l.length + fuel) listed a w
  | [], listed, a, hok, h => by
    simp only [okReads, Option.some.injEq] at hok
    subst hok
    simpa using hK a (by simpa [wpQuiet] using h)
  | i :: rest, listed, a, hok, h => by
    unfold okReads at hok
    split at hok
    · rename_i hc
      simp only [Bool.and_eq_true] at hc
      obtain ⟨⟨⟨hi, hf⟩, hr⟩, hrd⟩ := hc
      have hi' : i < ops.size := of_decide_eq_true hi
      have ho : ops[i]? = some ops[i] := Array.getElem?_eq_getElem hi'
      simp only [ho, Option.map_some, Option.getD_some] at hrd
      rw [List.filterMap_cons, ho] at h
      simp only [wpQuiet] at h
      have key : ∀ v, YieldsIf P ops C ops[i] v a → wpQuiet P ops C K (rest.filterMap (ops[·]?)) (a.put ops[i].dst v) → wpAnyH P md ops Q C ((i :: rest).length + fuel) listed a w := fun v hy h2 => by
        rw [List.length_cons, Nat.add_right_comm]
        exact wpAnyH_take ho hs hf hr (fun c a w => hQ c a _ v w) hy hC (reads_sound2 hs hQ fuel w hC hK rest _ _ hok h2)
      split at h
      · rename_i hw
        obtain ⟨v, h1, h2⟩ := h
        exact key v (yieldsIf_of_quiet hrd hw h1) h2
      · rename_i hw
        exact key undef (.inr ⟨by simpa using hw, rfl⟩) h
    · cases hok

theorem pcs_sound (hs : Region.noSelect ops = true) (hQ : ∀ c a d v w, Q (.panic c) (a.put d v) w → Q (.panic c) a w) : ∀ (l : List Seg) (C : World → Prop) (listed : Array Bool) (a : Act) (w : World), okSegs md ops l listed = true → C w →
    wpPcs P ops Q l C a w → wpAnyH P md ops Q C (segLen l) listed a w
  | [], C, listed, a, w, hok, hC, h => ⟨by simpa [okSegs] using hok, h⟩
  | .reads l :: rest, C, listed, a, w, hok, hC, h => by
    unfold okSegs at hok
    split at hok
    · rename_i lst hl
      exact reads_sound2 hs hQ (segLen rest) w hC (fun a' hK => pcs_sound hs hQ rest C lst a' w hok hC hK) l listed a hl h
    · cases hok
  | .write i :: rest, C, listed, a, w, hok, hC, h => by
    simp only [okSegs, Bool.and_eq_true, beq_iff_eq] at hok
    show wpAnyH P md ops Q C (1 + segLen rest) listed a w
    rw [Nat.add_comm]
    refine wpAnyH_all hok.1 (by simp) fun j hj => ?_
    obtain rfl : j = i := by simpa using hj
    exact wpOp_mono (fun a' w' ⟨C', hsub, hC', h2⟩ => ⟨hsub _ hC', wpAny_mono hsub _ _ _ _ (pcs_sound hs hQ rest C' _ a' w' hok.2 hC' h2)⟩) h

theorem wp_region_pcs {id : Nat} {a : Act} {w : World} (l : List Seg) (C : World → Prop) (hm : P.follows .mixedOrders = true) (hs : Region.noSelect ops = true) (hlen : segLen l = ops.size) (hok : okSegs .any ops l (Array.replicate ops.size false) = true)
    (hC : C w.drew) (h : wpPcs P ops (NoPanic Q) l C a w.drew) : (Code.region id ops true).wp P Q a w := by
  refine wp_region_noPanic (wp_region_held (S := C) hm ?_)
  have := pcs_sound (md := .any) hs (fun _ _ _ _ _ h => h) l C (Array.replicate ops.size false) a w.drew hok hC h
  rw [hlen] at this
  exact this
theorem wpPcs_write {i : Nat} {rest : List Seg} {C : World → Prop} {a : Act} {w : World} {o : Oper} (ho : ops[i]? = some o)
    (h : ∀ K : Act → World → Prop, (∀ (C' : World → Prop) a' w', (∀ x, C' x → C x) → C' w' → wpPcs P ops Q rest C' a' w' → K a' w') → if Region.wanted o (yielded ops a.tmps) = true then Oper.wp P o a w K Q else K (a.put o.dst undef) w) :
    wpPcs P ops Q (.write i :: rest) C a w := by
  have h1 := h (fun a' w' => ∃ C' : World → Prop, (∀ x, C' x → C x) ∧ C' w' ∧ wpPcs P ops Q rest C' a' w') (fun C' a' w' h1 h2 h3 => ⟨C', h1, h2, h3⟩)
  show wpOp P ops Q i _ a w
  unfold wpOp
  simp only [ho]
  split at h1
  · rename_i hw
    rw [if_pos hw]
    exact .inl h1
  · rename_i hw
    rw [if_neg hw]
    exact h1
theorem wpPcs_reads {l : List Nat} {rest : List Seg} {C : World → Prop} {a : Act} {w : World} {L : List Oper} (hL : l.filterMap (ops[·]?) = L) (h : ∀ K : Act → Prop, (∀ a', wpPcs P ops Q rest C a' w → K a') → wpQuiet P ops C K L a) : wpPcs P ops Q (.reads l :: rest) C a w := by
  show wpQuiet P ops C (fun a' => wpPcs P ops Q rest C a' w) (l.filterMap (ops[·]?)) a
  rw [hL]
  exact h _ (fun _ h => h)
theorem wpPcs_nil {C : World → Prop} {a : Act} {w : World} (h : Q .normal a w) : wpPcs P ops (NoPanic Q) [] C a w := h
/-- The head of a plain region's list, walked by the cheap step. -/
theorem wpList_quiet_app : ∀ (l1 l2 : List Oper) (a : Act) (w : World) (K : Act → Prop), (∀ a', K a' → wpList P ops Q l2 a' w) → l1.all isRead = true → wpQuiet P ops (fun W => W = w) K l1 a → wpList P ops Q (l1 ++ l2) a w
  | [], l2, a, w, K, hK, _, h => hK a h
  | o :: l1, l2, a, w, K, hK, hr, h => by
    simp only [List.all_cons, Bool.and_eq_true] at hr
    simp only [wpQuiet] at h
    refine wpList_step fun K' hK' => ?_
    split at h
    · rename_i hw
      rw [if_pos hw]
      obtain ⟨v, h1, h2⟩ := h
      have hy := yieldsIf_of_quiet (ops := ops) hr.1 hw h1
      have h3 := wpList_quiet_app l1 l2 _ w K hK hr.2 h2
      rcases hy with ⟨_, hy⟩ | ⟨hn, _⟩
      · unfold Oper.wp
        rw [hy w rfl]
        exact hK' _ _ h3
      · rw [hw] at hn; cases hn
    · rename_i hw
      rw [if_neg hw]
      exact hK' _ _ (wpList_quiet_app l1 l2 _ w K hK hr.2 h)
theorem wpList_quiet (n : Nat) {l : List Oper} {a : Act} {w : World} (hr : (l.take n).all isRead = true) (h : ∀ K : Act → Prop, (∀ a', wpList P ops Q (l.drop n) a' w → K a') → wpQuiet P ops (fun W => W = w) K (l.take n) a) : wpList P ops Q l a w := by
  rw [← List.take_append_drop n l]
  exact wpList_quiet_app _ _ a w _ (fun _ h => h) hr (h _ (fun _ h => h))
end
/-- A world of a kind. -/
def Wof (p : World → Prop) : Type := { W : World // p W }
end Go.Proofs.Ytcbngjpihcemiaa
