/- A region that draws its order, walked once: what only reads is walked under a class of worlds; what writes comes up alone. Over any program. -/
import Derived.OrdersHeld
import Derived.Deep.Quiet
import Derived.Deep.QuietTactic
import Derived.BigQuiet
import Derived.Deep.RegionHeld3
import Derived.Test.YtcbngjpihcemiaaWd
namespace Go.Proofs.Ytcbngjpihcemiaa

section
variable {P : Program} {ops : Array Oper} {Q : Exit → Act → World → Prop} {md : Region.Mode}

/-- It yields a value, if anything. -/
def isRead (o : Oper) : Bool :=
  match o.op with
  | .move _ | .assign _ | .pick _ _ _ | .load _ _ | .binOp _ _ _ _ _ | .unOp _ _ _ | .convert _ _ _ | .slice _ _ _ _ _ | .fieldAddr _ _ _ | .field _ _ _ | .indexAddr _ _ _ | .index _ _ _ | .extract _ _ | .nilCheck _ | .build _ _ | .makeInterface _ _ => true
  | .call c => match c.callee with
    | .builtin b => match b with
      | .len | .cap | .max | .min => true
      | _ => false
    | _ => false
  | _ => false

theorem then_any {α : Type} {r : Result α} {k : α → World → Result Next} {w' : World} {n : Next} (h : r.andThen k = .ok n w') : ∃ a w1, k a w1 = .ok n w' := by
  cases r with
  | ok v w1 => exact ⟨v, w1, h⟩
  | halt x w1 => simp [Result.andThen] at h
theorem then_value {α : Type} {f : α → Value} {r : Result α} {w' : World} {n : Next} (h : (r.andThen fun a w' => Result.ok (Next.value (f a)) w') = .ok n w') : ∃ u, n = .value u := by
  obtain ⟨a, w1, h1⟩ := then_any h
  simp only [Result.ok.injEq] at h1
  exact ⟨_, h1.1.symm⟩

theorem isRead_value {o : Oper} {ρ : Operand → Value} {w w' : World} {n : Next} (h : isRead o = true) (hr : (execOp ρ o).run P w = .ok n w') : ∃ u, n = .value u := by
  unfold isRead at h
  unfold execOp at hr
  split at h
  all_goals first
    | cases h
    | skip
  all_goals rename_i heq
  all_goals simp only [heq] at hr
  case h_14 =>
    split at hr
    case h_4 =>
      split at hr
      · simp [runtimePanic] at hr
      · simp only [Sem.run_bind] at hr
        obtain ⟨_, _, h1⟩ := then_any hr
        obtain ⟨_, _, h2⟩ := then_any h1
        split at h2
        · simp only [Sem.run_bind] at h2
          obtain ⟨_, _, h3⟩ := then_any h2
          simp at h3
          exact ⟨_, h3.1.symm⟩
        · simp at h2
          exact ⟨_, h2.1.symm⟩
      · exact ⟨_, (by simp at hr; exact hr.1.symm)⟩
    case h_5 => exact ⟨_, (by simp at hr; exact hr.1.symm)⟩
    all_goals simp [runtimePanic] at hr
  case h_17 =>
    split at h
    · rename_i hc
      split at h
      all_goals first
        | cases h
        | skip
      all_goals
        simp only [resolve, hc, Sem.run_bind, Sem.run_pure, Result.andThen_ok, invoke, builtin] at hr
        exact then_value (f := id) hr
    · cases h
  case h_1 => exact ⟨_, (by simp at hr; exact hr.1.symm)⟩
  case h_2 => exact ⟨_, (by simp at hr; exact hr.1.symm)⟩
  case h_5 =>
    simp only [Sem.run_bind, Sem.run_pure] at hr
    obtain ⟨_, _, h2⟩ := then_any hr
    exact ⟨_, (by simp only [Result.ok.injEq] at h2; exact h2.1.symm)⟩
  case h_3 =>
    simp only [Sem.run_bind, Sem.run_pure] at hr
    obtain ⟨_, _, h2⟩ := then_any hr
    exact ⟨_, (by simp only [Result.ok.injEq] at h2; exact h2.1.symm)⟩
  all_goals
    (simp only [Sem.run_bind, Sem.run_pure] at hr; exact then_value (f := id) hr)

/-- One value in every world of the class. -/
theorem yieldsIf_of_quiet {C : World → Prop} {o : Oper} {a : Act} {v : Value} (hc : isRead o = true) (hw : Region.wanted o (yielded ops a.tmps) = true) (h : ∀ w, C w → o.quietAt P a C w v) : YieldsIf P ops C o v a := by
  refine .inl ⟨hw, fun w hC => ?_⟩
  have h1 := h w hC
  unfold Oper.quietAt at h1
  generalize hr : (execOp a.eval o).run P w = r at h1
  cases r with
  | ok n w' =>
    obtain ⟨u, rfl⟩ := isRead_value hc hr
    simp only [Oper.quietUpon] at h1
    rw [h1.1, h1.2]
  | halt x w' => simp only [Oper.quietUpon] at h1

/-- A piece of a walk: what reads, by number; one that writes. -/
inductive Seg where
  | reads (l : List Nat)
  | write (i : Nat)

/-- The walk, over a class of worlds. -/
def wpSegs (P : Program) (ops : Array Oper) (Q : Exit → Act → World → Prop) : List Seg → (World → Prop) → Act → Prop
  | [], C, a => ∀ w, C w → Q .normal a w
  | .reads l :: rest, C, a => wpQuiet P ops C (fun a' => wpSegs P ops Q rest C a') (l.filterMap (ops[·]?)) a
  | .write i :: rest, C, a => ∀ w, C w → wpOp P ops Q i (fun a' w' => ∃ C' : World → Prop, (∀ x, C' x → C x) ∧ C' w' ∧ wpSegs P ops Q rest C' a') a w

def okReads (md : Region.Mode) (ops : Array Oper) : List Nat → Array Bool → Option (Array Bool)
  | [], listed => some listed
  | i :: rest, listed => if decide (i < ops.size) && Region.free md ops listed i && (Region.ready md ops listed).contains i && ((ops[i]?).map isRead).getD false then okReads md ops rest (listed.setIfInBounds i true) else none
def okSegs (md : Region.Mode) (ops : Array Oper) : List Seg → Array Bool → Bool
  | [], listed => (Region.ready md ops listed).isEmpty
  | .reads l :: rest, listed => match okReads md ops l listed with
    | some listed' => okSegs md ops rest listed'
    | none => false
  | .write i :: rest, listed => (Region.ready md ops listed == [i]) && okSegs md ops rest (listed.setIfInBounds i true)

theorem wpAny_mono {Q : Exit → Act → World → Prop} {S S' : World → Prop} (h : ∀ x, S' x → S x) : ∀ (fuel : Nat) (listed : Array Bool) (a : Act) (w : World), wpAnyH P md ops Q S' fuel listed a w → wpAnyH P md ops Q S fuel listed a w
  | 0, _, _, _, h1 => h1
  | fuel + 1, _, _, _, h1 => ⟨h1.1, fun i hi => wpOp_mono (fun a' w' h2 => ⟨h _ h2.1, wpAny_mono h fuel _ a' w' h2.2⟩) (h1.2 i hi)⟩

/-- How many operations are still to come. -/
def segLen : List Seg → Nat
  | [] => 0
  | .reads l :: rest => l.length + segLen rest
  | .write _ :: rest => 1 + segLen rest

theorem reads_sound (hs : Region.noSelect ops = true) (hQ : ∀ c a d v w, Q (.panic c) (a.put d v) w → Q (.panic c) a w) {C : World → Prop} {K : Act → Prop} (fuel : Nat) {lst : Array Bool}
    (hK : ∀ a w, C w → K a → wpAnyH P md ops Q C fuel lst a w) : ∀ (l : List Nat) (listed : Array Bool) (a : Act) (w : World), okReads md ops l listed = some lst → C w →
    wpQuiet P ops C K (l.filterMap (ops[·]?)) a → wpAnyH P md ops Q C (l.length + fuel) listed a w
  | [], listed, a, w, hok, hC, h => by
    simp only [okReads, Option.some.injEq] at hok
    subst hok
    simpa using hK a w hC (by simpa [wpQuiet] using h)
  | i :: rest, listed, a, w, hok, hC, h => by
    unfold okReads at hok
    split at hok
    · rename_i hc
      simp only [Bool.and_eq_true] at hc
      obtain ⟨⟨⟨hi, hf⟩, hr⟩, hrd⟩ := hc
      have hi' : i < ops.size := of_decide_eq_true hi
      have ho : ops[i]? = some ops[i] := Array.getElem?_eq_getElem hi'
      simp only [ho, Option.map_some, Option.getD_some] at hrd
      rw [List.filterMap_cons, ho] at h
      simp only [wpQuiet] at h
      have key : ∀ v, YieldsIf P ops C ops[i] v a → wpQuiet P ops C K (rest.filterMap (ops[·]?)) (a.put ops[i].dst v) → wpAnyH P md ops Q C ((i :: rest).length + fuel) listed a w := fun v hy h2 => by
        rw [List.length_cons, Nat.add_right_comm]
        exact wpAnyH_take ho hs hf hr (fun c a w => hQ c a _ v w) hy hC (reads_sound hs hQ fuel hK rest _ _ w hok hC h2)
      split at h
      · rename_i hw
        obtain ⟨v, h1, h2⟩ := h
        exact key v (yieldsIf_of_quiet hrd hw h1) h2
      · rename_i hw
        exact key undef (.inr ⟨by simpa using hw, rfl⟩) h
    · cases hok

theorem segs_sound (hs : Region.noSelect ops = true) (hQ : ∀ c a d v w, Q (.panic c) (a.put d v) w → Q (.panic c) a w) : ∀ (l : List Seg) (C : World → Prop) (listed : Array Bool) (a : Act) (w : World), okSegs md ops l listed = true → C w →
    wpSegs P ops Q l C a → wpAnyH P md ops Q C (segLen l) listed a w
  | [], C, listed, a, w, hok, hC, h => ⟨by simpa [okSegs] using hok, h w hC⟩
  | .reads l :: rest, C, listed, a, w, hok, hC, h => by
    unfold okSegs at hok
    split at hok
    · rename_i lst hl
      exact reads_sound hs hQ (segLen rest) (fun a' w' hC' hK => segs_sound hs hQ rest C lst a' w' hok hC' hK) l listed a w hl hC h
    · cases hok
  | .write i :: rest, C, listed, a, w, hok, hC, h => by
    simp only [okSegs, Bool.and_eq_true, beq_iff_eq] at hok
    have h1 := h w hC
    show wpAnyH P md ops Q C (1 + segLen rest) listed a w
    rw [Nat.add_comm]
    refine wpAnyH_all hok.1 (by simp) fun j hj => ?_
    obtain rfl : j = i := by simpa using hj
    exact wpOp_mono (fun a' w' ⟨C', hsub, hC', h2⟩ => ⟨hsub _ hC', wpAny_mono hsub _ _ _ _ (segs_sound hs hQ rest C' _ a' w' hok.2 hC' h2)⟩) h1

theorem wp_region_segs {id : Nat} {a : Act} {w : World} (l : List Seg) (C : World → Prop) (hm : P.follows .mixedOrders = true) (hs : Region.noSelect ops = true) (hlen : segLen l = ops.size) (hok : okSegs .any ops l (Array.replicate ops.size false) = true)
    (hC : C w.drew) (h : wpSegs P ops (NoPanic Q) l C a) : (Code.region id ops true).wp P Q a w := by
  refine wp_region_noPanic (wp_region_held (S := C) hm ?_)
  have := segs_sound (md := .any) hs (fun _ _ _ _ _ h => h) l C (Array.replicate ops.size false) a w.drew hok hC h
  rw [hlen] at this
  exact this
theorem wpSegs_write {i : Nat} {rest : List Seg} {C : World → Prop} {a : Act} {o : Oper} (ho : ops[i]? = some o)
    (h : ∀ w, C w → ∀ K : Act → World → Prop, (∀ (C' : World → Prop) a' w', (∀ x, C' x → C x) → C' w' → wpSegs P ops Q rest C' a' → K a' w') → if Region.wanted o (yielded ops a.tmps) = true then Oper.wp P o a w K Q else K (a.put o.dst undef) w) :
    wpSegs P ops Q (.write i :: rest) C a := fun w hC => by
  have h1 := h w hC (fun a' w' => ∃ C' : World → Prop, (∀ x, C' x → C x) ∧ C' w' ∧ wpSegs P ops Q rest C' a') (fun C' a' w' h1 h2 h3 => ⟨C', h1, h2, h3⟩)
  unfold wpOp
  simp only [ho]
  split at h1
  · rename_i hw
    rw [if_pos hw]
    exact .inl h1
  · rename_i hw
    rw [if_neg hw]
    exact h1
theorem wpSegs_reads {l : List Nat} {rest : List Seg} {C : World → Prop} {a : Act} {L : List Oper} (hL : l.filterMap (ops[·]?) = L) (h : ∀ K : Act → Prop, (∀ a', wpSegs P ops Q rest C a' → K a') → wpQuiet P ops C K L a) : wpSegs P ops Q (.reads l :: rest) C a := by
  show wpQuiet P ops C (fun a' => wpSegs P ops Q rest C a') (l.filterMap (ops[·]?)) a
  rw [hL]
  exact h _ (fun _ h => h)
theorem wpSegs_nil {C : World → Prop} {a : Act} (h : ∀ w, C w → Q .normal a w) : wpSegs P ops (NoPanic Q) [] C a := h
end
/-- A world behind another. -/
def Ext (w : World) : Type := { W : World // Go.RowKit.Below w.heap.size w W }
instance (w : World) : Nonempty (Ext w) := ⟨⟨w, Go.RowKit.Below.refl _ _⟩⟩
end Go.Proofs.Ytcbngjpihcemiaa
