/- The quick heap: regions that draw their order. -/
import Derived.Test.YtifmhhiabopgmaaDoorIg
import Derived.Orders
namespace Go.Proofs.YtifmhhiabopgmaaDoor
open Go.RowKit

/-- A plan: what is read early; what writes, and what is looked at anew behind it. -/
inductive PSeg where
  | rd (i : Nat)
  | wr (i : Nat) (chk : List Nat)
def memN (i : Nat) : List Nat → Bool
  | [] => false
  | j :: l => cond (Nat.beq i j) true (memN i l)
theorem memN_iff {i : Nat} : ∀ {l : List Nat}, memN i l = true ↔ i ∈ l
  | [] => by simp [memN]
  | j :: l => by
    rw [memN, List.mem_cons]
    by_cases h : i = j
    · subst h; simp
    · rw [beq_no h, cond_false, memN_iff]
      simp [h]
/-- What an operation waits for. -/
noncomputable def afters (ops : List Oper) (i : Nat) : List Nat := match ops[i]? with
  | some o => (o.after.toList.filter fun e => Region.binds .any e).map (·.on)
  | none => []
noncomputable def dstOf (ops : List Oper) (i : Nat) : Option Nat := match ops[i]? with
  | some o => o.dst
  | none => none
noncomputable def looksOf (ops : List Oper) (i : Nat) : List Nat := match ops[i]? with
  | some o => looks ops o
  | none => []
/-- What hangs on no heap. -/
def pureB (op : Op) : Bool := match op with
  | .move _ => true
  | .assign _ => true
  | .pick _ _ _ => true
  | .nilCheck _ => true
  | .extract _ _ => true
  | .binOp _ _ _ _ _ => true
  | .unOp _ _ _ => true
  | .fieldAddr _ _ _ => true
  | .field _ _ _ => true
  | .indexAddr _ _ _ => true
  | .index _ _ _ => true
  | .build _ _ => true
  | .makeFunc _ _ _ => true
  | .call _ => true
  | _ => false
theorem pure_ird {T : Tab} {E : Tr Value} {H H' : PH} {op : Op} (h : pureB op = true) : ird T E H op = ird T E H' op := by
  cases op <;> first | rfl | cases h
noncomputable def pureAt (ops : List Oper) (i : Nat) : Bool := match ops[i]? with
  | some o => pureB o.op
  | none => false
/-- Of those read early, the ones that need not have been done. -/
noncomputable def keepC (ops : List Oper) : List Nat → List Nat → List Nat
  | _, [] => []
  | S, p :: ps => cond (memN p S) (keepC ops (afters ops p ++ S) ps) (p :: keepC ops S ps)
def subB (l m : List Nat) : Bool := l.all fun i => memN i m
noncomputable def slotRd (ops : List Oper) (i : Nat) (pend : List Nat) : Bool :=
  (pend.all fun p => match dstOf ops i with
    | some d => !memN d (looksOf ops p) && !(dstOf ops p == some d)
    | none => true) &&
  ((i :: pend).all fun p => match dstOf ops p with
    | some d => !memN d (looksOf ops i) || memN p (afters ops i)
    | none => true)
noncomputable def slotWr (ops : List Oper) (i : Nat) (pend keep : List Nat) : Bool :=
  (keep.all fun p => match dstOf ops i with
    | some d => !memN d (looksOf ops p) && !(dstOf ops p == some d)
    | none => true) &&
  (pend.all fun p => match dstOf ops p with
    | some d => !memN d (looksOf ops i) || memN p (afters ops i)
    | none => true)
noncomputable def okPlan (ops : List Oper) : List PSeg → List Nat → List Nat → Bool
  | [], done, _ => (List.range ops.length).all fun k => memN k done
  | .rd i :: rest, done, pend => Nat.blt i ops.length && !memN i done && subB (afters ops i) done && ((afters ops i).all fun q => Nat.blt q i) && (dstOf ops i).isSome && slotRd ops i pend && okPlan ops rest (i :: done) (i :: pend)
  | .wr i chk :: rest, done, pend => Nat.blt i ops.length && !memN i done && subB (afters ops i) done &&
    ((List.range ops.length).all fun k => memN k done || k == i || !subB (afters ops k) done) &&
    slotWr ops i pend (keepC ops (afters ops i) pend) && ((keepC ops (afters ops i) pend).all fun p => memN p chk || pureAt ops p) && okPlan ops rest (i :: done) (keepC ops (afters ops i) pend)
/-- Two values, compared. -/
noncomputable def veq1 (u v : Value) : Bool := match u with
  | .bool a => match v with
    | .bool b => a == b
    | _ => false
  | .int k a => match v with
    | .int k' b => k == k' && ieqB a b
    | _ => false
  | .string a => match v with
    | .string b => bsEq a.data.toList b.data.toList
    | _ => false
  | .pointer none => match v with
    | .pointer none => true
    | _ => false
  | .pointer (some ⟨j, o, none⟩) => match v with
    | .pointer (some ⟨j', o', none⟩) => Nat.beq j j' && Nat.beq o o'
    | _ => false
  | .slice none n c => match v with
    | .slice none n' c' => Nat.beq n n' && Nat.beq c c'
    | _ => false
  | .slice (some ⟨j, o, none⟩) n c => match v with
    | .slice (some ⟨j', o', none⟩) n' c' => Nat.beq j j' && Nat.beq o o' && Nat.beq n n' && Nat.beq c c'
    | _ => false
  | _ => false
noncomputable def veqL : List Value → List Value → Bool
  | [], [] => true
  | a :: l, b :: m => veq1 a b && veqL l m
  | _, _ => false
noncomputable def veq (u v : Value) : Bool := match u with
  | .agg a => match v with
    | .agg b => veqL a.toList b.toList
    | _ => false
  | u => veq1 u v
theorem veq1_eq {u v : Value} (h : veq1 u v = true) : u = v := by
  unfold veq1 at h
  split at h
  · split at h
    · simp at h; rw [h]
    · cases h
  · split at h
    · rw [ieqB_eq] at h; simp at h; rw [h.1, h.2]
    · cases h
  · split at h
    · rename_i a _ b
      rw [bsEq_eq] at h
      obtain ⟨⟨a⟩⟩ := a
      obtain ⟨⟨b⟩⟩ := b
      simp at h
      rw [h]
    · cases h
  · split at h
    · rfl
    · cases h
  · split at h
    · simp at h; rw [h.1, h.2]
    · cases h
  · split at h
    · simp at h; rw [h.1, h.2]
    · cases h
  · split at h
    · simp at h; rw [h.1.1.1, h.1.1.2, h.1.2, h.2]
    · cases h
  · cases h
theorem veqL_eq : ∀ {l m : List Value}, veqL l m = true → l = m
  | [], [], _ => rfl
  | a :: l, b :: m, h => by
    unfold veqL at h
    replace h := and_t h
    rw [veq1_eq h.1, veqL_eq h.2]
  | [], _ :: _, h => by cases h
  | _ :: _, [], h => by cases h
theorem veq_eq {u v : Value} (h : veq u v = true) : u = v := by
  unfold veq at h
  split at h
  · split at h
    · have := veqL_eq h
      rw [Array.toList_inj.1 this]
    · cases h
  · exact veq1_eq h
/-- Is it read anew, as it was? -/
noncomputable def again (T : Tab) (ops : List Oper) (E : Tr Value) (H : PH) (p : Nat) : Bool := match ops[p]? with
  | some o => match o.dst with
    | some d => match E.get d with
      | some v => match igd ops E o with
        | some true => match ird T E H o.op with
          | some v' => veq v v'
          | none => false
        | some false => true
        | none => false
      | none => false
    | none => false
  | none => false
/-- The walk by a plan. -/
noncomputable def iplan (call : CallF) (T : Tab) (N : Nat) (ops : List Oper) : List PSeg → Tr Value → PH → Option (Tr Value × PH)
  | [], E, H => some (E, H)
  | .rd i :: rest, E, H => match ops[i]? with
    | some o => match igd ops E o with
      | some b => bsel b (match ird T E H o.op with
          | some v => setE (frc o.op) N E o.dst v fun E' => iplan call T N ops rest E' H
          | none => none)
        (setE false N E o.dst undef fun E' => iplan call T N ops rest E' H)
      | none => none
    | none => none
  | .wr i chk :: rest, E, H => match ops[i]? with
    | some o => match igd ops E o with
      | some b => bsel b
        (iop call T E H o fun v H' => setE (frc o.op) N E o.dst v fun E' => bsel (chk.all (again T ops E' H')) (iplan call T N ops rest E' H') none)
        (setE false N E o.dst undef fun E' => iplan call T N ops rest E' H)
      | none => none
    | none => none
/-- What is known of what was read early. -/
def Early (T : Tab) (ops : List Oper) (E : Tr Value) (H : PH) (p : Nat) : Prop := ∃ o d v, ops[p]? = some o ∧ o.dst = some d ∧ E.get d = some v ∧ ((igd ops E o = some true ∧ ird T E H o.op = some v) ∨ (igd ops E o = some false ∧ v = undef))
theorem opd_same {E E' : Tr Value} {x : Operand} (h : ∀ t ∈ opTmps x, E'.get t = E.get t) : opd E' x = opd E x := by
  cases x with
  | tmp t => exact h t (by simp [opTmps])
  | _ => rfl
theorem ibnd_same {E E' : Tr Value} {x : Option Operand} {d : Nat} (h : ∀ z, x = some z → opd E' z = opd E z) : ibnd E' x d = ibnd E x d := by
  cases x with
  | none => rfl
  | some z => unfold ibnd; simp only; rw [h z rfl]
theorem iargs_same {E E' : Tr Value} : ∀ {l : List Operand}, (∀ x ∈ l, opd E' x = opd E x) → iargs E' l = iargs E l
  | [], _ => rfl
  | x :: l, h => by
    unfold iargs
    rw [h x (by simp), iargs_same (l := l) fun y hy => h y (by simp [hy])]
theorem iparts_same {E E' : Tr Value} : ∀ {l : List (Nat × Operand)}, (∀ x ∈ l.map (·.2), opd E' x = opd E x) → iparts E' l = iparts E l
  | [], _ => rfl
  | (i, x) :: l, h => by
    unfold iparts
    rw [h x (by simp), iparts_same (l := l) fun y hy => h y (by simp only [List.map_cons, List.mem_cons]; exact .inr hy)]
theorem ird_same {T : Tab} {E E' : Tr Value} {H : PH} {op : Op} (h : ∀ x ∈ op.operands.toList, opd E' x = opd E x) : ird T E' H op = ird T E H op := by
  cases op <;> simp only [ird] <;> try rfl
  case move x => exact h x (by simp [Op.operands])
  case assign x => exact h x (by simp [Op.operands])
  case pick c a b => rw [h c (by simp [Op.operands]), h a (by simp [Op.operands]), h b (by simp [Op.operands])]
  case nilCheck x => rw [h x (by simp [Op.operands])]
  case extract x k => rw [h x (by simp [Op.operands])]
  case binOp op t x y yt => rw [h x (by simp [Op.operands]), h y (by simp [Op.operands])]
  case unOp op t x => rw [h x (by simp [Op.operands])]
  case load t x => rw [h x (by simp [Op.operands])]
  case fieldAddr t x f => rw [h x (by simp [Op.operands])]
  case field t x f => rw [h x (by simp [Op.operands])]
  case indexAddr t x y => rw [h x (by simp [Op.operands]), h y (by simp [Op.operands])]
  case index t x y => rw [h x (by simp [Op.operands]), h y (by simp [Op.operands])]
  case slice t x lo hi mx =>
    rw [h x (by simp [Op.operands])]
    have e1 : ∀ d, ibnd E' lo d = ibnd E lo d := fun d => ibnd_same fun z hz => h z (by subst hz; simp [Op.operands])
    have e2 : ∀ d, ibnd E' hi d = ibnd E hi d := fun d => ibnd_same fun z hz => h z (by subst hz; simp [Op.operands])
    have e3 : ∀ d, ibnd E' mx d = ibnd E mx d := fun d => ibnd_same fun z hz => h z (by subst hz; simp [Op.operands])
    cases opd E x with
    | none => rfl
    | some u =>
      simp only
      unfold islice
      cases mx with
      | none => simp only [e1, e2, e3]
      | some m => simp only [e1, e2, e3]
  case convert s d x => rw [h x (by simp [Op.operands])]
  case build t ps => rw [iparts_same fun x hx => h x (by simpa [Op.operands] using hx)]
  case makeFunc fn a b =>
    rw [iargs_same fun x hx => h x (by simp only [Op.operands, Array.toList_append, List.mem_append]; exact .inl hx), iargs_same fun x hx => h x (by simp only [Op.operands, Array.toList_append, List.mem_append]; exact .inr hx)]
  case call c =>
    obtain ⟨callee, args, ts⟩ := c
    simp only
    have ha : ∀ x ∈ args.toList, opd E' x = opd E x := fun x hx => h x (by simp only [Op.operands, Call.operands, Array.toList_append, List.mem_append]; exact .inr hx)
    cases callee with
    | builtin b =>
      simp only
      unfold ibuiltin
      split
      · rename_i x hx
        rw [ha x (by rw [hx]; simp)]
      · rename_i x y hx
        rw [ha x (by rw [hx]; simp), ha y (by rw [hx]; simp)]
      · rfl
    | _ => rfl
theorem igd_same {ops : List Oper} {E E' : Tr Value} {o : Oper} (h : ∀ s, gslot ops o = some s → E'.get s = E.get s) : igd ops E' o = igd ops E o := by
  unfold igd
  unfold gslot at h
  split
  · rfl
  · rename_i j want hg
    rw [hg] at h
    simp only at h
    split
    · rename_i p hp
      rw [hp] at h
      simp only at h
      split
      · rename_i s hs
        rw [h s hs]
      · rfl
    · rfl
theorem Early.same {T : Tab} {ops : List Oper} {E E' : Tr Value} {H : PH} {p : Nat} (h : Early T ops E H p) (hl : ∀ t ∈ looksOf ops p, E'.get t = E.get t) (hd : ∀ d, dstOf ops p = some d → E'.get d = E.get d) : Early T ops E' H p := by
  obtain ⟨o, d, v, h1, h2, h3, h4⟩ := h
  have hl' : ∀ t ∈ looks ops o, E'.get t = E.get t := by
    unfold looksOf at hl
    rw [h1] at hl
    exact hl
  have hg : igd ops E' o = igd ops E o := igd_same fun s hs => hl' s (by unfold looks; rw [hs]; simp)
  have hi : ird T E' H o.op = ird T E H o.op := ird_same fun x hx => opd_same fun t ht => hl' t (by unfold looks; exact List.mem_append_left _ (List.mem_flatMap.2 ⟨x, hx, ht⟩))
  refine ⟨o, d, v, h1, h2, ?_, ?_⟩
  · rw [hd d (by unfold dstOf; rw [h1]; exact h2)]; exact h3
  · rw [hg, hi]; exact h4
end Go.Proofs.YtifmhhiabopgmaaDoor
