/- The quick heap: regions that draw their order. -/
import Derived.Test.YtcbngjpihcemiaaIg
import Derived.Orders
namespace Go.Proofs.Ytcbngjpihcemiaa
open Go.RowKit

/-- A plan: what is read early; what makes a block early; what writes, which blocks stand by then, and what is looked at anew behind it. -/
inductive PSeg where
  | rd (i : Nat)
  | al (i : Nat)
  | wr (i : Nat) (cms chk : List Nat)
def memN (i : Nat) : List Nat → Bool
  | [] => false
  | j :: l => cond (Nat.beq i j) true (memN i l)
theorem memN_iff {i : Nat} : ∀ {l : List Nat}, memN i l = true ↔ i ∈ l
  | [] => by simp [memN]
  | j :: l => by
    rw [memN, List.mem_cons]
    by_cases h : i = j
    · subst h; simp
    · rw [beq_no h, cond_false, memN_iff]
      simp [h]
/-- What an operation waits for. -/
noncomputable def afters (ops : List Oper) (i : Nat) : List Nat := match ops[i]? with
  | some o => (o.after.toList.filter fun e => Region.binds .any e).map (·.on)
  | none => []
noncomputable def dstOf (ops : List Oper) (i : Nat) : Option Nat := match ops[i]? with
  | some o => o.dst
  | none => none
noncomputable def looksOf (ops : List Oper) (i : Nat) : List Nat := match ops[i]? with
  | some o => looks ops o
  | none => []
/-- What hangs on no heap. -/
def pureB (op : Op) : Bool := match op with
  | .move _ => true
  | .assign _ => true
  | .pick _ _ _ => true
  | .nilCheck _ => true
  | .extract _ _ => true
  | .binOp _ _ _ _ _ => true
  | .unOp _ _ _ => true
  | .fieldAddr _ _ _ => true
  | .field _ _ _ => true
  | .indexAddr _ _ _ => true
  | .index _ _ _ => true
  | .build _ _ => true
  | .makeFunc _ _ _ => true
  | .call _ => true
  | _ => false
theorem pure_ird {T : Tab} {E : Tr Value} {H H' : PH} {op : Op} (h : pureB op = true) : ird T E H op = ird T E H' op := by
  cases op <;> first | rfl | cases h
noncomputable def pureAt (ops : List Oper) (i : Nat) : Bool := match ops[i]? with
  | some o => pureB o.op
  | none => false
/-- Of those read early, the ones that need not have been done. -/
noncomputable def keepC (ops : List Oper) : List Nat → List Nat → List Nat
  | _, [] => []
  | S, p :: ps => cond (memN p S) (keepC ops (afters ops p ++ S) ps) (p :: keepC ops S ps)
def subB (l m : List Nat) : Bool := l.all fun i => memN i m
noncomputable def slotRd (ops : List Oper) (i : Nat) (pend : List Nat) : Bool :=
  (pend.all fun p => match dstOf ops i with
    | some d => !memN d (looksOf ops p) && !(dstOf ops p == some d)
    | none => true) &&
  ((i :: pend).all fun p => match dstOf ops p with
    | some d => !memN d (looksOf ops i) || memN p (afters ops i)
    | none => true)
noncomputable def slotWr (ops : List Oper) (i : Nat) (pend keep : List Nat) : Bool :=
  (keep.all fun p => match dstOf ops i with
    | some d => !memN d (looksOf ops p) && !(dstOf ops p == some d)
    | none => true) &&
  (pend.all fun p => match dstOf ops p with
    | some d => !memN d (looksOf ops i) || memN p (afters ops i)
    | none => true)
noncomputable def okPlan (ops : List Oper) : List PSeg → List Nat → List Nat → List Nat → Bool
  | [], done, _, _ => (List.range ops.length).all fun k => memN k done
  | .rd i :: rest, done, pend, als => Nat.blt i ops.length && !memN i done && subB (afters ops i) done && ((afters ops i).all fun q => Nat.blt q i) && (dstOf ops i).isSome && slotRd ops i pend && okPlan ops rest (i :: done) (i :: pend) als
  | .al i :: rest, done, pend, als => Nat.blt i ops.length && !memN i done && subB (afters ops i) done && ((afters ops i).all fun q => Nat.blt q i) && (dstOf ops i).isSome && slotRd ops i pend && okPlan ops rest (i :: done) (i :: pend) (i :: als)
  | .wr i cms chk :: rest, done, pend, als => Nat.blt i ops.length && !memN i done && subB (afters ops i) done &&
    ((List.range ops.length).all fun k => memN k done || k == i || !subB (afters ops k) done) &&
    slotWr ops i pend (keepC ops (afters ops i) pend) && ((keepC ops (afters ops i) pend).all fun p => memN p als || (memN p chk || pureAt ops p)) && (cms.all fun p => !memN p (keepC ops (afters ops i) pend)) && okPlan ops rest (i :: done) (keepC ops (afters ops i) pend) als
/-- Two values, compared. -/
noncomputable def veq1 (u v : Value) : Bool := match u with
  | .bool a => match v with
    | .bool b => a == b
    | _ => false
  | .int k a => match v with
    | .int k' b => k == k' && ieqB a b
    | _ => false
  | .string a => match v with
    | .string b => bsEq a.data.toList b.data.toList
    | _ => false
  | .pointer none => match v with
    | .pointer none => true
    | _ => false
  | .pointer (some ⟨j, o, none⟩) => match v with
    | .pointer (some ⟨j', o', none⟩) => Nat.beq j j' && Nat.beq o o'
    | _ => false
  | .slice none n c => match v with
    | .slice none n' c' => Nat.beq n n' && Nat.beq c c'
    | _ => false
  | .slice (some ⟨j, o, none⟩) n c => match v with
    | .slice (some ⟨j', o', none⟩) n' c' => Nat.beq j j' && Nat.beq o o' && Nat.beq n n' && Nat.beq c c'
    | _ => false
  | _ => false
noncomputable def veqL : List Value → List Value → Bool
  | [], [] => true
  | a :: l, b :: m => veq1 a b && veqL l m
  | _, _ => false
noncomputable def veq (u v : Value) : Bool := match u with
  | .agg a => match v with
    | .agg b => veqL a.toList b.toList
    | _ => false
  | u => veq1 u v
theorem veq1_eq {u v : Value} (h : veq1 u v = true) : u = v := by
  unfold veq1 at h
  split at h
  · split at h
    · simp at h; rw [h]
    · cases h
  · split at h
    · rw [ieqB_eq] at h; simp at h; rw [h.1, h.2]
    · cases h
  · split at h
    · rename_i a _ b
      rw [bsEq_eq] at h
      obtain ⟨⟨a⟩⟩ := a
      obtain ⟨⟨b⟩⟩ := b
      simp at h
      rw [h]
    · cases h
  · split at h
    · rfl
    · cases h
  · split at h
    · simp at h; rw [h.1, h.2]
    · cases h
  · split at h
    · simp at h; rw [h.1, h.2]
    · cases h
  · split at h
    · simp at h; rw [h.1.1.1, h.1.1.2, h.1.2, h.2]
    · cases h
  · cases h
theorem veqL_eq : ∀ {l m : List Value}, veqL l m = true → l = m
  | [], [], _ => rfl
  | a :: l, b :: m, h => by
    unfold veqL at h
    replace h := and_t h
    rw [veq1_eq h.1, veqL_eq h.2]
  | [], _ :: _, h => by cases h
  | _ :: _, [], h => by cases h
theorem veq_eq {u v : Value} (h : veq u v = true) : u = v := by
  unfold veq at h
  split at h
  · split at h
    · have := veqL_eq h
      rw [Array.toList_inj.1 this]
    · cases h
  · exact veq1_eq h
/-- Is it read anew, as it was? -/
noncomputable def again (T : Tab) (ops : List Oper) (E : Tr Value) (H : PH) (p : Nat) : Bool := match ops[p]? with
  | some o => match o.dst with
    | some d => match E.get d with
      | some v => match igd ops E o with
        | some true => match ird T E H o.op with
          | some v' => veq v v'
          | none => false
        | some false => true
        | none => false
      | none => false
    | none => false
  | none => false
/-- A block that is made early: operation, ghost id, block. -/
abbrev AB := Nat × Nat × FB
/-- A new block, and how it is pointed at. -/
noncomputable def ialloc (T : Tab) (E : Tr Value) (op : Op) : Option (FB × (Nat → Value)) := match op with
  | .alloc e => match T e with
    | some i => bsel i.zero.isEmpty none (FB.newK e 1 i.zero fun b => bsel (Nat.ble b.n 1000000000) (some (b, fun id => .pointer (some ⟨id, 0, none⟩))) none)
    | none => none
  | .box e x => match opd E x with
    | some v => bsel (allOne v.cells.toList) (FB.newK e 1 v.cells.toList fun b => bsel (Nat.ble b.n 1000000000) (some (b, fun id => .pointer (some ⟨id, 0, none⟩))) none) none
    | none => none
  | .buildSlice t len ps => match T t with
    | some i => match i.d with
      | .slice e z _ zr => match iparts E ps.toList with
        | some vs => bsel (Nat.ble (len * z) 16777216 && !zr.isEmpty) (match gfill (fun k => some (k * z, z)) (gmade zr len) vs with
          | some cs => bsel (allOne cs) (FB.newK e z cs fun b => bsel (Nat.ble b.n 1000000000) (some (b, fun id => .slice (some ⟨id, 0, none⟩) len len)) none) none
          | none => none) none
        | none => none
      | _ => none
    | none => none
  | _ => none
/-- The blocks that stand by now come into the heap. -/
noncomputable def commitK {β : Type} (cms : List Nat) : List AB → List AB → PH → (List AB → PH → β) → β
  | [], acc, H, K => K acc H
  | x :: l, acc, H, K => bsel (memN x.1 cms) (H.putK x.2.1 x.2.2 fun H2 => commitK cms l acc H2 K) (commitK cms l (x :: acc) H K)
noncomputable def commit (cms : List Nat) : List AB → List AB → PH → List AB × PH
  | [], acc, H => (acc, H)
  | x :: l, acc, H => bsel (memN x.1 cms) (commit cms l acc ⟨H.n, Tr.put 64 H.t x.2.1 (some x.2.2)⟩) (commit cms l (x :: acc) H)
theorem commitK_eq {β : Type} {cms : List Nat} {K : List AB → PH → β} : ∀ {l acc : List AB} {H : PH}, commitK cms l acc H K = K (commit cms l acc H).1 (commit cms l acc H).2
  | [], _, _ => rfl
  | x :: l, acc, H => by
    rw [commitK, commit]
    cases memN x.1 cms with
    | true =>
      show H.putK x.2.1 x.2.2 (fun H2 => commitK cms l acc H2 K) = _
      rw [PH.put_eq]
      exact commitK_eq (l := l)
    | false => exact commitK_eq (l := l)
/-- The walk by a plan. -/
noncomputable def iplan (call : CallF) (T : Tab) (N : Nat) (ops : List Oper) : List PSeg → List AB → Tr Value → PH → Option (Tr Value × PH)
  | [], al, E, H => commitK (al.map (·.1)) al [] H fun _ H => some (E, H)
  | .rd i :: rest, al, E, H => match ops[i]? with
    | some o => match igd ops E o with
      | some b => bsel b (match ird T E H o.op with
          | some v => setE (frc o.op) N E o.dst v fun E' => iplan call T N ops rest al E' H
          | none => none)
        (setE false N E o.dst undef fun E' => iplan call T N ops rest al E' H)
      | none => none
    | none => none
  | .al i :: rest, al, E, H => match ops[i]? with
    | some o => match igd ops E o with
      | some b => bsel b (match ialloc T E o.op with
          | some (fb, vf) => bsel (Nat.ble H.n 1000000000) (Tr.setK 64 H.t H.n none fun t => fN (Nat.succ H.n) fun n => setE true N E o.dst (vf H.n) fun E' => iplan call T N ops rest ((i, H.n, fb) :: al) E' ⟨n, t⟩) none
          | none => none)
        (setE false N E o.dst undef fun E' => iplan call T N ops rest al E' H)
      | none => none
    | none => none
  | .wr i cms chk :: rest, al, E, H => commitK cms al [] H fun al H => match ops[i]? with
    | some o => match igd ops E o with
      | some b => bsel b
        (iop call T E H o fun v H' => setE (frc o.op) N E o.dst v fun E' => bsel (chk.all (again T ops E' H')) (iplan call T N ops rest al E' H') none)
        (setE false N E o.dst undef fun E' => bsel (cms.isEmpty || chk.all (again T ops E' H)) (iplan call T N ops rest al E' H) none)
      | none => none
    | none => none
/-- What is known of what was read early. -/
def Early (T : Tab) (ops : List Oper) (E : Tr Value) (H : PH) (p : Nat) : Prop := ∃ o d v, ops[p]? = some o ∧ o.dst = some d ∧ E.get d = some v ∧ ((igd ops E o = some true ∧ ird T E H o.op = some v) ∨ (igd ops E o = some false ∧ v = undef))
theorem opd_same {E E' : Tr Value} {x : Operand} (h : ∀ t ∈ opTmps x, E'.get t = E.get t) : opd E' x = opd E x := by
  cases x with
  | tmp t => exact h t (by simp [opTmps])
  | _ => rfl
theorem ibnd_same {E E' : Tr Value} {x : Option Operand} {d : Nat} (h : ∀ z, x = some z → opd E' z = opd E z) : ibnd E' x d = ibnd E x d := by
  cases x with
  | none => rfl
  | some z => unfold ibnd; simp only; rw [h z rfl]
theorem iargs_same {E E' : Tr Value} : ∀ {l : List Operand}, (∀ x ∈ l, opd E' x = opd E x) → iargs E' l = iargs E l
  | [], _ => rfl
  | x :: l, h => by
    unfold iargs
    rw [h x (by simp), iargs_same (l := l) fun y hy => h y (by simp [hy])]
theorem iparts_same {E E' : Tr Value} : ∀ {l : List (Nat × Operand)}, (∀ x ∈ l.map (·.2), opd E' x = opd E x) → iparts E' l = iparts E l
  | [], _ => rfl
  | (i, x) :: l, h => by
    unfold iparts
    rw [h x (by simp), iparts_same (l := l) fun y hy => h y (by simp only [List.map_cons, List.mem_cons]; exact .inr hy)]
theorem ird_same {T : Tab} {E E' : Tr Value} {H : PH} {op : Op} (h : ∀ x ∈ op.operands.toList, opd E' x = opd E x) : ird T E' H op = ird T E H op := by
  cases op <;> simp only [ird] <;> try rfl
  case move x => exact h x (by simp [Op.operands])
  case assign x => exact h x (by simp [Op.operands])
  case pick c a b => rw [h c (by simp [Op.operands]), h a (by simp [Op.operands]), h b (by simp [Op.operands])]
  case nilCheck x => rw [h x (by simp [Op.operands])]
  case extract x k => rw [h x (by simp [Op.operands])]
  case binOp op t x y yt => rw [h x (by simp [Op.operands]), h y (by simp [Op.operands])]
  case unOp op t x => rw [h x (by simp [Op.operands])]
  case load t x => rw [h x (by simp [Op.operands])]
  case fieldAddr t x f => rw [h x (by simp [Op.operands])]
  case field t x f => rw [h x (by simp [Op.operands])]
  case indexAddr t x y => rw [h x (by simp [Op.operands]), h y (by simp [Op.operands])]
  case index t x y => rw [h x (by simp [Op.operands]), h y (by simp [Op.operands])]
  case makeInterface t x => rw [h x (by simp [Op.operands])]
  case typeAssert x xt t ok => rw [h x (by simp [Op.operands])]
  case slice t x lo hi mx =>
    rw [h x (by simp [Op.operands])]
    have e1 : ∀ d, ibnd E' lo d = ibnd E lo d := fun d => ibnd_same fun z hz => h z (by subst hz; simp [Op.operands])
    have e2 : ∀ d, ibnd E' hi d = ibnd E hi d := fun d => ibnd_same fun z hz => h z (by subst hz; simp [Op.operands])
    have e3 : ∀ d, ibnd E' mx d = ibnd E mx d := fun d => ibnd_same fun z hz => h z (by subst hz; simp [Op.operands])
    cases opd E x with
    | none => rfl
    | some u =>
      simp only
      unfold islice
      cases mx with
      | none => simp only [e1, e2, e3]
      | some m => simp only [e1, e2, e3]
  case convert s d x => rw [h x (by simp [Op.operands])]
  case build t ps => rw [iparts_same fun x hx => h x (by simpa [Op.operands] using hx)]
  case makeFunc fn a b =>
    rw [iargs_same fun x hx => h x (by simp only [Op.operands, Array.toList_append, List.mem_append]; exact .inl hx), iargs_same fun x hx => h x (by simp only [Op.operands, Array.toList_append, List.mem_append]; exact .inr hx)]
  case call c =>
    obtain ⟨callee, args, ts⟩ := c
    simp only
    have ha : ∀ x ∈ args.toList, opd E' x = opd E x := fun x hx => h x (by simp only [Op.operands, Call.operands, Array.toList_append, List.mem_append]; exact .inr hx)
    cases callee with
    | builtin b =>
      simp only
      unfold ibuiltin
      split
      · rename_i x hx
        rw [ha x (by rw [hx]; simp)]
      · rename_i x y hx
        rw [ha x (by rw [hx]; simp), ha y (by rw [hx]; simp)]
      · rfl
    | _ => rfl
theorem igd_same {ops : List Oper} {E E' : Tr Value} {o : Oper} (h : ∀ s, gslot ops o = some s → E'.get s = E.get s) : igd ops E' o = igd ops E o := by
  unfold igd
  unfold gslot at h
  split
  · rfl
  · rename_i j want hg
    rw [hg] at h
    simp only at h
    split
    · rename_i p hp
      rw [hp] at h
      simp only at h
      split
      · rename_i s hs
        rw [h s hs]
      · rfl
    · rfl
theorem ialloc_same {T : Tab} {E E' : Tr Value} {op : Op} (h : ∀ x ∈ op.operands.toList, opd E' x = opd E x) : ialloc T E' op = ialloc T E op := by
  cases op <;> simp only [ialloc]
  case box e x => rw [h x (by simp [Op.operands])]
  case buildSlice t len ps => rw [iparts_same fun x hx => h x (by simpa [Op.operands] using hx)]
/-- What is known of what was made early. -/
def EarlyA (T : Tab) (ops : List Oper) (al : List AB) (E : Tr Value) (p : Nat) : Prop := ∃ o d x vf, ops[p]? = some o ∧ o.dst = some d ∧ x ∈ al ∧ x.1 = p ∧ E.get d = some (vf x.2.1) ∧ igd ops E o = some true ∧ ialloc T E o.op = some (x.2.2, vf)
/-- What is known of what was not to be done. -/
def EarlyI (ops : List Oper) (E : Tr Value) (p : Nat) : Prop := ∃ o d, ops[p]? = some o ∧ o.dst = some d ∧ E.get d = some undef ∧ igd ops E o = some false
def EarlyX (T : Tab) (ops : List Oper) (als : List Nat) (al : List AB) (E : Tr Value) (H : PH) (p : Nat) : Prop := (p ∉ als ∧ Early T ops E H p) ∨ (p ∈ als ∧ (EarlyA T ops al E p ∨ (EarlyI ops E p ∧ ∀ x ∈ al, x.1 ≠ p)))
theorem EarlyI.early {T : Tab} {ops : List Oper} {E : Tr Value} {H : PH} {p : Nat} (h : EarlyI ops E p) : Early T ops E H p := by
  obtain ⟨o, d, h1, h2, h3, h4⟩ := h
  exact ⟨o, d, undef, h1, h2, h3, .inr ⟨h4, rfl⟩⟩
theorem Early.same {T : Tab} {ops : List Oper} {E E' : Tr Value} {H : PH} {p : Nat} (h : Early T ops E H p) (hl : ∀ t ∈ looksOf ops p, E'.get t = E.get t) (hd : ∀ d, dstOf ops p = some d → E'.get d = E.get d) : Early T ops E' H p := by
  obtain ⟨o, d, v, h1, h2, h3, h4⟩ := h
  have hl' : ∀ t ∈ looks ops o, E'.get t = E.get t := by
    unfold looksOf at hl
    rw [h1] at hl
    exact hl
  have hg : igd ops E' o = igd ops E o := igd_same fun s hs => hl' s (by unfold looks; rw [hs]; simp)
  have hi : ird T E' H o.op = ird T E H o.op := ird_same fun x hx => opd_same fun t ht => hl' t (by unfold looks; exact List.mem_append_left _ (List.mem_flatMap.2 ⟨x, hx, ht⟩))
  refine ⟨o, d, v, h1, h2, ?_, ?_⟩
  · rw [hd d (by unfold dstOf; rw [h1]; exact h2)]; exact h3
  · rw [hg, hi]; exact h4
theorem EarlyA.same {T : Tab} {ops : List Oper} {al : List AB} {E E' : Tr Value} {p : Nat} (h : EarlyA T ops al E p) (hl : ∀ t ∈ looksOf ops p, E'.get t = E.get t) (hd : ∀ d, dstOf ops p = some d → E'.get d = E.get d) : EarlyA T ops al E' p := by
  obtain ⟨o, d, x, vf, h1, h2, h3, h4, h5, h6, h7⟩ := h
  have hl' : ∀ t ∈ looks ops o, E'.get t = E.get t := by
    unfold looksOf at hl
    rw [h1] at hl
    exact hl
  have hg : igd ops E' o = igd ops E o := igd_same fun s hs => hl' s (by unfold looks; rw [hs]; simp)
  have hi : ialloc T E' o.op = ialloc T E o.op := ialloc_same fun x hx => opd_same fun t ht => hl' t (by unfold looks; exact List.mem_append_left _ (List.mem_flatMap.2 ⟨x, hx, ht⟩))
  refine ⟨o, d, x, vf, h1, h2, h3, h4, ?_, by rw [hg]; exact h6, by rw [hi]; exact h7⟩
  rw [hd d (by unfold dstOf; rw [h1]; exact h2)]
  exact h5
theorem EarlyI.same {ops : List Oper} {E E' : Tr Value} {p : Nat} (h : EarlyI ops E p) (hl : ∀ t ∈ looksOf ops p, E'.get t = E.get t) (hd : ∀ d, dstOf ops p = some d → E'.get d = E.get d) : EarlyI ops E' p := by
  obtain ⟨o, d, h1, h2, h3, h4⟩ := h
  have hl' : ∀ t ∈ looks ops o, E'.get t = E.get t := by
    unfold looksOf at hl
    rw [h1] at hl
    exact hl
  have hg : igd ops E' o = igd ops E o := igd_same fun s hs => hl' s (by unfold looks; rw [hs]; simp)
  exact ⟨o, d, h1, h2, by rw [hd d (by unfold dstOf; rw [h1]; exact h2)]; exact h3, by rw [hg]; exact h4⟩
theorem EarlyX.same {T : Tab} {ops : List Oper} {als : List Nat} {al al' : List AB} {E E' : Tr Value} {H : PH} {p : Nat} (h : EarlyX T ops als al E H p) (hal : ∀ x : AB, x.1 = p → (x ∈ al ↔ x ∈ al')) (hl : ∀ t ∈ looksOf ops p, E'.get t = E.get t) (hd : ∀ d, dstOf ops p = some d → E'.get d = E.get d) : EarlyX T ops als al' E' H p := by
  rcases h with ⟨h0, h⟩ | ⟨h0, h | h⟩
  · exact .inl ⟨h0, h.same hl hd⟩
  · obtain ⟨o, d, x, vf, h1, h2, h3, h4, h5⟩ := h.same hl hd
    exact .inr ⟨h0, .inl ⟨o, d, x, vf, h1, h2, (hal x h4).1 h3, h4, h5⟩⟩
  · exact .inr ⟨h0, .inr ⟨h.1.same hl hd, fun x hx e => h.2 x ((hal x e).2 hx) e⟩⟩
end Go.Proofs.Ytcbngjpihcemiaa
