/- The ghost walk: code. Over any program. -/
import Derived.Test.YtcbngjpihcemiaaGb
import Derived.Deep.LoopGhost
import Derived.Tactics2
import Derived.LoopN
namespace Go.Proofs.Ytcbngjpihcemiaa
open Go.RowKit

/-- What a function may write: these blocks, and those that came behind the first n0. -/
structure Ctx where
  F : List Nat
  n0 : Nat
structure Sim (C : Ctx) (w0 : World) (Fr : List Nat) (μ0 μ : Ren) (H : Hp) (w : World) : Prop where
  h : SimH μ H w
  ext : Ext' μ0 μ
  frm : Frm w0 w Fr
  old : ∀ i ∈ C.F, i < C.n0 ∧ ∀ L, μ i = some L → L.g ∈ Fr
  new : ∀ i L, C.n0 ≤ i → μ i = some L → L.g ∈ Fr ∨ w0.heap.size ≤ L.g
  len : C.n0 ≤ H.length
  back : ∀ i L, i < C.n0 → μ i = some L → μ0 i = some L
/-- May a block be written? -/
def Ctx.may (C : Ctx) (i : Nat) : Prop := i ∈ C.F ∨ C.n0 ≤ i
section
variable {C : Ctx} {w0 w : World} {Fr : List Nat} {μ0 μ : Ren} {H : Hp}
theorem Sim.may (s : Sim C w0 Fr μ0 μ H w) {i : Nat} (h : C.may i) {L : Loc} (hL : μ i = some L) : L.g ∈ Fr ∨ w0.heap.size ≤ L.g := by
  rcases h with h | h
  · exact .inl ((s.old i h).2 L hL)
  · exact s.new i L h hL
end

def GPost (N : Nat) (C : Ctx) (w0 : World) (Fr : List Nat) (μ0 : Ren) (Q : Exit → Env → Hp → Prop) : Exit → Act → World → Prop := fun e a w => ∃ μ env H, Sim C w0 Fr μ0 μ H w ∧ ER μ N env a ∧ Q e env H
def GWP (P : Program) (N : Nat) (C : Ctx) (c : Code) (Q : Exit → Env → Hp → Prop) (env : Env) (H : Hp) : Prop :=
  ∀ w0 Fr μ0 μ a w, Sim C w0 Fr μ0 μ H w → ER μ N env a → c.wp P (GPost N C w0 Fr μ0 Q) a w
def GOps (P : Program) (N : Nat) (C : Ctx) (ops : Array Oper) (Q : Exit → Env → Hp → Prop) (l : List Oper) (env : Env) (H : Hp) : Prop :=
  ∀ w0 Fr μ0 μ a w, Sim C w0 Fr μ0 μ H w → ER μ N env a → wpList P ops (GPost N C w0 Fr μ0 Q) l a w
/-- Behind a piece of code comes another one. -/
def gthen (K : Env → Hp → Prop) (Q : Exit → Env → Hp → Prop) : Exit → Env → Hp → Prop
  | .normal, env, H => K env H
  | e, env, H => Q e env H
def gblock (id : Nat) (Q : Exit → Env → Hp → Prop) : Exit → Env → Hp → Prop
  | .exit id', env, H => cond (Nat.beq id' id) (Q .normal env H) (Q (.exit id') env H)
  | e, env, H => Q e env H
section
variable {P : Program} {N : Nat} {C : Ctx} {Q Q' : Exit → Env → Hp → Prop} {env : Env} {H : Hp}
theorem GWP.mono {c : Code} (h : GWP P N C c Q env H) (hq : ∀ e env H, Q e env H → Q' e env H) : GWP P N C c Q' env H := fun w0 Fr μ0 μ a w hs he =>
  wp_mono (h w0 Fr μ0 μ a w hs he) fun _ _ _ ⟨μ', env', H', q1, q2, q3⟩ => ⟨μ', env', H', q1, q2, hq _ _ _ q3⟩
/-- What the frame holds beside may be forgotten. -/
theorem GWP.sub {c : Code} {env' : Env} (h : GWP P N C c Q env' H) (hs : ∀ s v, env'.get s = some v → env.get s = some v) : GWP P N C c Q env H := fun w0 Fr μ0 μ a w hs' he => h w0 Fr μ0 μ a w hs' (he.sub hs)
/-- A block may be forgotten. -/
theorem GWP.kill {c : Code} (i : Nat) (h : GWP P N C c Q env (H.kill i)) : GWP P N C c Q env H := fun w0 Fr μ0 μ a w hs he =>
  h w0 Fr μ0 μ a w ⟨hs.h.kill i, hs.ext, hs.frm, hs.old, hs.new, by rw [Hp.len_kill]; exact hs.len, hs.back⟩ he
theorem GWP.skip (h : Q .normal env H) : GWP P N C .skip Q env H := fun _ _ _ μ _ _ hs he => wp_skip ⟨μ, env, H, hs, he, h⟩
theorem GWP.ret (h : Q .ret env H) : GWP P N C .ret Q env H := fun _ _ _ μ _ _ hs he => wp_ret ⟨μ, env, H, hs, he, h⟩
theorem GWP.exit {id : Nat} (h : Q (.exit id) env H) : GWP P N C (.exit id) Q env H := fun _ _ _ μ _ _ hs he => wp_exit ⟨μ, env, H, hs, he, h⟩
theorem GWP.seq {x y : Code} (h : GWP P N C x (gthen (fun env H => GWP P N C y Q env H) Q) env H) : GWP P N C (.seq x y) Q env H := fun w0 Fr μ0 μ a w hs he => by
  refine wp_seq (wp_mono (h w0 Fr μ0 μ a w hs he) ?_)
  rintro e a' w' ⟨μ', env', H', q1, q2, q3⟩
  cases e with
  | normal => exact q3 w0 Fr μ0 μ' a' w' q1 q2
  | _ => exact ⟨μ', env', H', q1, q2, q3⟩
/-- The same, what comes behind behind a letter. -/
theorem GWP.seq_k {x y : Code} (h : ∀ K : Env → Hp → Prop, (∀ env H, GWP P N C y Q env H → K env H) → GWP P N C x (gthen K Q) env H) : GWP P N C (.seq x y) Q env H := .seq (h _ fun _ _ h => h)
theorem GWP.cond {c : Operand} {x y : Code} {b : Bool} (hc : geval env c = some (.bool b)) (h1 : b = true → GWP P N C x Q env H) (h2 : b = false → GWP P N C y Q env H) : GWP P N C (.cond c x y) Q env H := fun w0 Fr μ0 μ a w hs he => by
  have hv := (he.eval hc).plain_eq rfl
  exact wp_cond_split hv (fun ht => h1 ht w0 Fr μ0 μ a w hs he) (fun hf => h2 hf w0 Fr μ0 μ a w hs he)
theorem GWP.cond_t {c : Operand} {x y : Code} {b : Bool} (hc : geval env c = some (.bool b)) (hb : b = true) (h1 : GWP P N C x Q env H) : GWP P N C (.cond c x y) Q env H := .cond hc (fun _ => h1) (fun h => by rw [hb] at h; cases h)
theorem GWP.cond_f {c : Operand} {x y : Code} {b : Bool} (hc : geval env c = some (.bool b)) (hb : b = false) (h1 : GWP P N C y Q env H) : GWP P N C (.cond c x y) Q env H := .cond hc (fun h => by rw [hb] at h; cases h) (fun _ => h1)
theorem GWP.block {id : Nat} {c : Code} (h : GWP P N C c (gblock id Q) env H) : GWP P N C (.block id c) Q env H := fun w0 Fr μ0 μ a w hs he => by
  refine wp_block (wp_mono (h w0 Fr μ0 μ a w hs he) ?_)
  rintro e a' w' ⟨μ', env', H', q1, q2, q3⟩
  cases e with
  | exit id' =>
    simp only [Exit.inBlock, gblock] at q3 ⊢
    split
    · rename_i h
      have hb : Nat.beq id' id = true := by rw [h]; exact Nat.beq_refl id
      rw [hb] at q3
      exact ⟨μ', env', H', q1, q2, q3⟩
    · rename_i h
      have hb : Nat.beq id' id = false := by
        cases hb : Nat.beq id' id with
        | true => exact absurd (Nat.eq_of_beq_eq_true hb) h
        | false => rfl
      rw [hb] at q3
      exact ⟨μ', env', H', q1, q2, q3⟩
  | _ => exact ⟨μ', env', H', q1, q2, q3⟩
theorem GWP.loop {α : Type} (E : α → Env) (I : α → Hp → Prop) (m : α → Nat) (x0 : α) {body : Code} (h0 : ∀ s v, (E x0).get s = some v → env.get s = some v) (hI : I x0 H)
    (round : ∀ x H, I x H → GWP P N C body (gthen (fun env' H' => ∃ x', (∀ s v, (E x').get s = some v → env'.get s = some v) ∧ I x' H' ∧ m x' < m x) Q) (E x) H) : GWP P N C (.loop body) Q env H := fun w0 Fr μ0 μ a w hs he => by
  refine wp_loop_ghost (fun n a w => ∃ x μ H, m x = n ∧ I x H ∧ Sim C w0 Fr μ0 μ H w ∧ ER μ N (E x) a) (m x0) ⟨x0, μ, H, rfl, hI, hs, he.sub h0⟩ ?_
  rintro n a w ⟨x, μ, H, rfl, hI, hs, he⟩
  refine wp_mono (round x H hI w0 Fr μ0 μ a w hs he) ?_
  rintro e a' w' ⟨μ', env', H', q1, q2, q3⟩
  cases e with
  | normal =>
    obtain ⟨x', q4, q5, q6⟩ := q3
    exact ⟨m x', q6, x', μ', H', rfl, q5, q1, q2.sub q4⟩
  | _ => exact ⟨μ', env', H', q1, q2, q3⟩
/-- A loop, laid out round by round. -/
def GRounds (P : Program) (N : Nat) (C : Ctx) (c : Code) (Q : Exit → Env → Hp → Prop) : Nat → Env → Hp → Prop
  | 0, _, _ => False
  | n + 1, env, H => GWP P N C c (gthen (GRounds P N C c Q n) Q) env H
theorem GRounds.step {body : Code} {n : Nat} (h : GWP P N C body (gthen (GRounds P N C body Q n) Q) env H) : GRounds P N C body Q (n + 1) env H := h
theorem GRounds.real {body : Code} {w0 : World} {Fr : List Nat} {μ0 : Ren} : ∀ (n : Nat) (env : Env) (H : Hp) (μ : Ren) (a : Act) (w : World), GRounds P N C body Q n env H → Sim C w0 Fr μ0 μ H w → ER μ N env a → Code.rounds P body (GPost N C w0 Fr μ0 Q) n a w
  | 0, _, _, _, _, _, h, _, _ => h
  | n + 1, env, H, μ, a, w, h, hs, he => by
    refine wp_mono (h w0 Fr μ0 μ a w hs he) ?_
    rintro e a' w' ⟨μ', env', H', q1, q2, q3⟩
    cases e with
    | normal => exact GRounds.real n env' H' μ' a' w' q3 q1 q2
    | _ => exact ⟨μ', env', H', q1, q2, q3⟩
theorem GWP.loopN {body : Code} (n : Nat) (h : GRounds P N C body Q n env H) : GWP P N C (.loop body) Q env H := fun _ _ _ μ a w hs he => wp_loop_rounds n (GRounds.real n env H μ a w h hs he)
theorem GWP.region {id : Nat} {l : List Oper} (h : GOps P N C l.toArray Q l env H) : GWP P N C (.region id l.toArray false) Q env H := fun w0 Fr μ0 μ a w hs he => wp_region_lit (h w0 Fr μ0 μ a w hs he)

/-- What an operation does: a relation between heap ahead, value and heap behind. -/
def GOp (P : Program) (C : Ctx) (o : Oper) (env : Env) (H : Hp) (R : Value → Hp → Prop) : Prop :=
  ∀ N w0 Fr μ0 μ a w (K : Act → World → Prop) (Q : Exit → Act → World → Prop), Sim C w0 Fr μ0 μ H w → ER μ N env a →
    (∀ v rv H' w' μ', R v H' → Sim C w0 Fr μ0 μ' H' w' → Ext' μ μ' → VR μ' v rv → K (a.put o.dst rv) w') → o.wp P a w K Q
/-- An operation that reads these blocks at most: the same value in all worlds that are alike there. -/
def GRd (P : Program) (o : Oper) (env : Env) (H : Hp) (v : Value) (T : List Nat) : Prop :=
  ∀ μ N a w, SimH μ H w → ER μ N env a → ∃ rv, VR μ v rv ∧ ∀ w', (∀ i ∈ T, ∀ L, μ i = some L → w'.heap[L.g]? = w.heap[L.g]?) → (execOp a.eval o).run P w' = .ok (.value rv) w'
theorem GRd.op {o : Oper} {v : Value} {T : List Nat} (h : GRd P o env H v T) : GOp P C o env H (fun u H' => u = v ∧ H' = H) := fun N w0 Fr μ0 μ a w K Q hs he hk => by
  obtain ⟨rv, h1, h2⟩ := h μ N a w hs.h he
  unfold Oper.wp
  rw [h2 w fun _ _ _ _ => rfl]
  exact hk v rv H w μ ⟨rfl, rfl⟩ hs (Ext'.refl μ) h1
def envput (env : Env) : Option Nat → Value → Env
  | some d, v => (d, v) :: env
  | none, _ => env
def dstOk (N : Nat) : Option Nat → Bool
  | some d => Nat.blt d N
  | none => true
def gwant (ops : Array Oper) (env : Env) (o : Oper) : Option Bool :=
  match o.guard with
  | none => some true
  | some (j, want) => match (ops[j]?).bind (·.dst) with
    | some s => match env.get s with
      | some (.bool b) => some (b == want)
      | some (.tuple _) => some false
      | _ => none
    | none => none
theorem ER.envput {μ : Ren} {a : Act} (h : ER μ N env a) {dst : Option Nat} (hd : dstOk N dst = true) {v v' : Value} (hv : VR μ v v') : ER μ N (envput env dst v) (a.put dst v') := by
  cases dst with
  | none => exact h
  | some d => exact h.put (by rw [← Nat.blt_eq]; exact hd) hv
theorem gwant_real {μ : Ren} {a : Act} {ops : Array Oper} {o : Oper} {b : Bool} (h : ER μ N env a) (hw : gwant ops env o = some b) : Region.wanted o (yielded ops a.tmps) = b := by
  unfold gwant at hw
  unfold Region.wanted
  split at hw
  · rename_i hg
    injection hw with hw
    rw [hg, ← hw]
  · rename_i j want hg
    rw [hg]
    split at hw
    · rename_i s hs
      split at hw
      · rename_i c hc
        injection hw with hw
        obtain ⟨v', h1, h2⟩ := h.val s _ hc
        have h3 := h2.plain_eq rfl
        subst h3
        simp only [yielded, hs, Option.bind_some, h1]
        rw [← hw]
        cases c <;> cases want <;> rfl
      · rename_i l hc
        injection hw with hw
        obtain ⟨v', h1, h2⟩ := h.val s _ hc
        cases h2
        simp only [yielded, hs, Option.bind_some, h1]
        rw [← hw]
        rfl
      · cases hw
    · cases hw
variable {ops : Array Oper} {o : Oper} {rest : List Oper}
theorem GOps.nil (h : Q .normal env H) : GOps P N C ops Q [] env H := fun _ _ _ μ _ _ hs he => wpList_nil ⟨μ, env, H, hs, he, h⟩
theorem GOps.step {b : Bool} {R : Value → Hp → Prop} (hw : gwant ops env o = some b) (hb : b = true) (hd : dstOk N o.dst = true) (h : GOp P C o env H R) (k : ∀ v H', R v H' → GOps P N C ops Q rest (envput env o.dst v) H') : GOps P N C ops Q (o :: rest) env H := fun w0 Fr μ0 μ a w hs he => by
  refine wpList_step fun K hK => ?_
  rw [gwant_real he hw, if_pos hb]
  exact h N w0 Fr μ0 μ a w K _ hs he fun v rv H' w' μ' hR hs' hx hv => hK _ _ (k v H' hR w0 Fr μ0 μ' _ w' hs' ((he.mono hx).envput hd hv))
theorem GOps.rd {b : Bool} {v : Value} {T : List Nat} (hw : gwant ops env o = some b) (hb : b = true) (hd : dstOk N o.dst = true) (h : GRd P o env H v T) (k : GOps P N C ops Q rest (Go.Proofs.Ytcbngjpihcemiaa.envput env o.dst v) H) : GOps P N C ops Q (o :: rest) env H :=
  GOps.step hw hb hd h.op fun v' H' ⟨e1, e2⟩ => by subst e1; subst e2; exact k
theorem GOps.pass {b : Bool} (hw : gwant ops env o = some b) (hb : b = false) (hd : dstOk N o.dst = true) (k : GOps P N C ops Q rest (Go.Proofs.Ytcbngjpihcemiaa.envput env o.dst undef) H) : GOps P N C ops Q (o :: rest) env H := fun w0 Fr μ0 μ a w hs he => by
  refine wpList_step fun K hK => ?_
  rw [gwant_real he hw, hb]
  exact hK _ _ (k w0 Fr μ0 μ _ w hs (he.envput hd (.tuple .nil)))
/-- The same, where the value goes into a slot. -/
theorem GOps.r {b : Bool} {v : Value} {d : Nat} {T : List Nat} (hw : gwant ops env o = some b) (hb : b = true) (hd : o.dst = some d) (hN : Nat.blt d N = true) (h : GRd P o env H v T) (k : GOps P N C ops Q rest ((d, v) :: env) H) : GOps P N C ops Q (o :: rest) env H :=
  GOps.rd hw hb (by rw [hd]; exact hN) h (by rw [hd]; exact k)
theorem GOps.w {b : Bool} {d : Nat} {R : Value → Hp → Prop} (hw : gwant ops env o = some b) (hb : b = true) (hd : o.dst = some d) (hN : Nat.blt d N = true) (h : GOp P C o env H R) (k : ∀ v H', R v H' → GOps P N C ops Q rest ((d, v) :: env) H') : GOps P N C ops Q (o :: rest) env H :=
  GOps.step hw hb (by rw [hd]; exact hN) h fun v H' hR => by rw [hd]; exact k v H' hR
theorem GOps.w1 {b : Bool} {d : Nat} {v0 : Value} {H0 : Hp} (hw : gwant ops env o = some b) (hb : b = true) (hd : o.dst = some d) (hN : Nat.blt d N = true) (h : GOp P C o env H (fun v H' => v = v0 ∧ H' = H0)) (k : GOps P N C ops Q rest ((d, v0) :: env) H0) : GOps P N C ops Q (o :: rest) env H :=
  GOps.w hw hb hd hN h fun v H' ⟨e1, e2⟩ => by subst e1; subst e2; exact k
theorem GOps.s {b : Bool} {v0 : Value} {H0 : Hp} (hw : gwant ops env o = some b) (hb : b = true) (hd : o.dst = none) (h : GOp P C o env H (fun v H' => v = v0 ∧ H' = H0)) (k : GOps P N C ops Q rest env H0) : GOps P N C ops Q (o :: rest) env H :=
  GOps.step hw hb (by rw [hd]; rfl) h fun v H' ⟨_, e2⟩ => by rw [hd]; subst e2; exact k
theorem GOps.no {b : Bool} {d : Nat} (hw : gwant ops env o = some b) (hb : b = false) (hd : o.dst = some d) (hN : Nat.blt d N = true) (k : GOps P N C ops Q rest ((d, undef) :: env) H) : GOps P N C ops Q (o :: rest) env H :=
  GOps.pass hw hb (by rw [hd]; exact hN) (by rw [hd]; exact k)
/-- A guard that lets the operation through is gone. -/
theorem GOps.take {b : Bool} {q : Nat × Bool} (_hg : o.guard = some q) (hw : gwant ops env o = some b) (hb : b = true) (k : GOps P N C ops Q ({ o with guard := none } :: rest) env H) : GOps P N C ops Q (o :: rest) env H := fun w0 Fr μ0 μ a w hs he => by
  have h := k w0 Fr μ0 μ a w hs he
  have hr := gwant_real he hw
  subst hb
  unfold wpList at h ⊢
  rw [if_pos hr]
  have h2 : Region.wanted { o with guard := none } (yielded ops a.tmps) = true := rfl
  rw [if_pos h2] at h
  exact h
end
end Go.Proofs.Ytcbngjpihcemiaa
