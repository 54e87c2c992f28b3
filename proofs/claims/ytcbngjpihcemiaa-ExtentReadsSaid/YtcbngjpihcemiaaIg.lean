/- The quick heap: one operation of a region. -/
import Derived.Test.YtcbngjpihcemiaaIf
namespace Go.Proofs.Ytcbngjpihcemiaa
open Go.RowKit

/-- The frame's ghost list out of the trie, but for some slots. -/
noncomputable def envR (E : Tr Value) (X : Nat → Prop) : Nat → Env
  | 0 => []
  | n + 1 => open Classical in if X n then envR E X n else match E.get n with
    | some v => (n, v) :: envR E X n
    | none => envR E X n
theorem envR_lt {E : Tr Value} {X : Nat → Prop} {s : Nat} {v : Value} : ∀ {n : Nat}, (envR E X n).get s = some v → s < n ∧ ¬ X s ∧ E.get s = some v
  | 0, h => by cases h
  | n + 1, h => by
    unfold envR at h
    split at h
    · obtain ⟨h1, h2⟩ := envR_lt h
      exact ⟨by omega, h2⟩
    · rename_i hx
      split at h
      · rename_i u hu
        by_cases e : n = s
        · subst e
          rw [Env.get_cons_eq] at h
          injection h with h
          subst h
          exact ⟨by omega, hx, hu⟩
        · rw [Env.get_cons_ne _ _ e] at h
          obtain ⟨h1, h2⟩ := envR_lt h
          exact ⟨by omega, h2⟩
      · obtain ⟨h1, h2⟩ := envR_lt h
        exact ⟨by omega, h2⟩
theorem envR_get {E : Tr Value} {X : Nat → Prop} {s : Nat} {v : Value} : ∀ {n : Nat}, s < n → ¬ X s → E.get s = some v → (envR E X n).get s = some v
  | 0, h, _, _ => by omega
  | n + 1, h, hx, hv => by
    unfold envR
    by_cases e : n = s
    · subst e
      rw [if_neg hx, hv]
      exact Env.get_cons_eq _ _ _
    · have ih := envR_get (E := E) (n := n) (by omega) hx hv
      split
      · exact ih
      · split
        · rw [Env.get_cons_ne _ _ e]; exact ih
        · exact ih
/-- Frame and trie, but for some slots. -/
structure ERt (μ : Ren) (N : Nat) (E : Tr Value) (X : Nat → Prop) (a : Act) : Prop where
  size : a.tmps.size = N
  defers : a.defers = []
  val : ∀ s v, E.get s = some v → ¬ X s → ∃ v', a.tmps[s]? = some v' ∧ VR μ v v'
section
variable {μ ν : Ren} {N : Nat} {E : Tr Value} {X : Nat → Prop} {a : Act}
theorem ERt.er (h : ERt μ N E X a) : ER μ N (envR E X N) a := ⟨h.size, h.defers, fun s v hs => by
  obtain ⟨_, h2, h3⟩ := envR_lt hs
  exact h.val s v h3 h2⟩
theorem ERt.mono (h : ERt μ N E X a) (he : Ext' μ ν) : ERt ν N E X a := ⟨h.size, h.defers, fun s v hs hx => by
  obtain ⟨v', h1, h2⟩ := h.val s v hs hx
  exact ⟨v', h1, h2.mono he⟩⟩
theorem ERt.lt (h : ERt μ N E X a) {s : Nat} {v : Value} (hs : E.get s = some v) (hx : ¬ X s) : s < N := by
  obtain ⟨v', h1, _⟩ := h.val s v hs hx
  rw [← h.size]
  exact (Array.getElem?_eq_some_iff.1 h1).1
theorem ERt.sees (h : ERt μ N E X a) {ts : List Nat} (ht : ∀ t ∈ ts, ¬ X t) : Sees (envR E X N) E ts := fun t hm _ hv => envR_get (h.lt hv (ht t hm)) (ht t hm) hv
end
/-- Is the value to be reckoned out? -/
def frc (op : Op) : Bool := match op with
  | .binOp _ _ _ _ _ => true
  | .unOp _ _ _ => true
  | .slice _ _ _ _ _ => true
  | .indexAddr _ _ _ => true
  | .fieldAddr _ _ _ => true
  | .convert _ _ _ => true
  | _ => false
noncomputable def fX {β : Type} (b : Bool) (v : Value) (c : Value → β) : β := bsel b (fV v c) (fW v c)
theorem fX_eq {β : Type} (b : Bool) (v : Value) (c : Value → β) : fX b v c = c v := by
  cases b
  · exact fW_eq v c
  · exact fV_eq v c
/-- Sets a slot, if there is one. -/
noncomputable def setE {β : Type} (b : Bool) (N : Nat) (E : Tr Value) (dst : Option Nat) (v : Value) (K : Tr Value → Option β) : Option β := match dst with
  | some d => bsel (Nat.ble (Nat.succ d) N) (fX b v fun v => Tr.setK 64 E d (some v) K) none
  | none => K E
noncomputable def putE (E : Tr Value) (dst : Option Nat) (v : Value) : Tr Value := match dst with
  | some d => Tr.put 64 E d (some v)
  | none => E
theorem setE_t {β : Type} {b : Bool} {N : Nat} {E : Tr Value} {dst : Option Nat} {v : Value} {K : Tr Value → Option β} {r : β} (h : setE b N E dst v K = some r) : dstOk N dst = true ∧ K (putE E dst v) = some r := by
  unfold setE at h
  split at h
  · rename_i d
    replace h := bsel_t h; obtain ⟨h1, h⟩ := h
    rw [fX_eq, Tr.setK_eq] at h
    refine ⟨?_, h⟩
    show Nat.blt d N = true
    rw [Nat.blt_eq]
    exact ble_le h1
  · exact ⟨rfl, h⟩
theorem putE_get {N : Nat} {E : Tr Value} {d s : Nat} {v : Value} (hN : N ≤ trMax) (hd : dstOk N (some d) = true) : (putE E (some d) v).get s = if s = d then some v else E.get s := by
  have : d < N := by
    have : Nat.blt d N = true := hd
    rwa [Nat.blt_eq] at this
  exact Tr.get_set (by omega)
theorem ERt.put {μ : Ren} {N : Nat} {E : Tr Value} {X : Nat → Prop} {a : Act} (h : ERt μ N E X a) (hN : N ≤ trMax) {dst : Option Nat} (hd : dstOk N dst = true) {v v' : Value} (hv : VR μ v v') : ERt μ N (putE E dst v) X (a.put dst v') := by
  cases dst with
  | none => exact h
  | some d =>
    have hdN : d < N := by
      have : Nat.blt d N = true := hd
      rwa [Nat.blt_eq] at this
    refine ⟨by simp [Act.put, h.size], h.defers, fun s u hs hx => ?_⟩
    rw [putE_get hN hd] at hs
    by_cases e : s = d
    · subst e
      rw [if_pos rfl] at hs
      injection hs with hs
      subst hs
      refine ⟨v', ?_, hv⟩
      simp [Act.put, h.size, hdN]
    · rw [if_neg e] at hs
      obtain ⟨w, h1, h2⟩ := h.val s u hs hx
      refine ⟨w, ?_, h2⟩
      simp only [Act.put]
      rw [Array.getElem?_setIfInBounds_ne (Ne.symm e)]
      exact h1
/-- The slot of a guard. -/
noncomputable def gslot (ops : List Oper) (o : Oper) : Option Nat := match o.guard with
  | none => none
  | some (j, _) => match ops[j]? with
    | some p => p.dst
    | none => none
/-- Is it to be done? -/
noncomputable def igd (ops : List Oper) (E : Tr Value) (o : Oper) : Option Bool := match o.guard with
  | none => some true
  | some (j, want) => match ops[j]? with
    | some p => match p.dst with
      | some s => match E.get s with
        | some (.bool b) => some (bsel want b (!b))
        | some (.tuple _) => some false
        | _ => none
      | none => none
    | none => none
/-- Where an operation looks. -/
noncomputable def looks (ops : List Oper) (o : Oper) : List Nat := o.op.operands.toList.flatMap opTmps ++ (gslot ops o).toList
theorem igd_real {ops : List Oper} {E : Tr Value} {o : Oper} {env : Env} {b : Bool} {μ : Ren} {N : Nat} {a : Act} (he : ER μ N env a) (hs : Sees env E (looks ops o)) (h : igd ops E o = some b) : Region.wanted o (yielded ops.toArray a.tmps) = b := by
  unfold igd at h
  unfold Region.wanted
  split at h
  · rename_i hg
    rw [hg]
    injection h
  · rename_i j want hg
    rw [hg]
    simp only
    split at h
    · rename_i p hp
      split at h
      · rename_i s hsd
        have hl : s ∈ looks ops o := by unfold looks gslot; rw [hg]; simp [hp, hsd]
        have hy : yielded ops.toArray a.tmps j = (match a.tmps[s]? with
          | some (.bool b) => some b
          | _ => none) := by
          unfold yielded
          rw [List.getElem?_toArray, hp]
          simp only [Option.bind_some, hsd]
          rfl
        rw [hy]
        split at h
        · rename_i c hc
          injection h with h
          subst h
          obtain ⟨v', h1, h2⟩ := he.val s _ (hs s hl _ hc)
          obtain rfl := h2.plain_eq rfl
          rw [h1]
          cases want <;> cases c <;> rfl
        · rename_i l hc
          injection h with h
          subst h
          obtain ⟨v', h1, h2⟩ := he.val s _ (hs s hl _ hc)
          rw [h1]
          cases h2 with
          | tuple hs => cases want <;> rfl
        · cases h
      · cases h
    · cases h
theorem Sees.left {env : Env} {E : Tr Value} {a b : List Nat} (h : Sees env E (a ++ b)) : Sees env E a := fun t ht => h t (List.mem_append_left _ ht)
/-- A call, by what is known of functions. -/
abbrev CallF := Nat → List Value → PH → Option (Value × PH)
def CallOk (P : Program) (call : CallF) : Prop := ∀ f args H v H', call f args H = some (v, H') → (∀ (ars : Array Value) (w : World), (callFunc f ars).run P w = .ok (.enter f ars) w) ∧ GCalls P f args (live H) H.abs (fun u X => u = v ∧ X = H'.abs) ∧ Mono H H'
noncomputable def icall {β : Type} (T : Tab) (call : CallF) (E : Tr Value) (H : PH) (c : Call) (K : Value → PH → Option β) : Option β := match c.callee with
  | .value x => match opd E x with
    | some (.func (.func f) first captured) => match iargs E c.args.toList with
      | some vs => match call f (first.toList ++ vs ++ captured.toList) H with
        | some (v, H') => K v H'
        | none => none
      | none => none
    | _ => none
  | .invoke x name => match opd E x with
    | some (.iface t u) => match T t with
      | some i => match msGet i.ms name with
        | some f => match iargs E c.args.toList with
          | some vs => match call f (u :: vs) H with
            | some (v, H') => K v H'
            | none => none
          | none => none
        | none => none
      | none => none
    | _ => none
  | _ => none
theorem gop_invoke {P : Program} {C : Ctx} {o : Oper} {env : Env} {H : Hp} {f : FuncId} {x : Operand} {name : String} {xs : List Operand} {ts : Array TypeId} {vs : List Value} {t : TypeId} {u : Value} {F : List Nat} {R : Value → Hp → Prop} (ho : o.op = .call { callee := .invoke x name, args := xs.toArray, argTypes := ts }) (hf : geval env x = some (.iface t u)) (hme : methB P t name f = true) (hc : ∀ (args : Array Value) (w : World), (callFunc f args).run P w = .ok (.enter f args) w) (hx : gargs env xs = some vs) (hm : ∀ i ∈ F, C.may i) (h : GCalls P f (u :: vs) F H R) : GOp P C o env H R := fun N w0 Fr μ0 μ a w K Q hs he hk => by
  have hr := gargs_real he hx
  have hv := he.eval hf
  generalize hq : a.eval x = q at hv
  cases hv with
  | iface _ h1 =>
    rename_i v'
    have hrun : (execOp a.eval o).run P w = .ok (.enter f (#[v'] ++ (xs.map a.eval).toArray)) w := by
      have e1 := method_run hme (P.types.size + 99) v' w
      have e2 : List.take xs.length (List.map a.eval xs) = List.map a.eval xs := List.take_of_length_le (by simp)
      have e4 : P.types.size + Made.depth = P.types.size + 99 + 1 := rfl
      simp [execOp, ho, resolve, hq, invoke, callMethod, hc, e4, e1, e2]
    unfold Oper.wp
    rw [hrun]
    show Calls P f _ w _
    refine (h μ w (#[v'] ++ (xs.map a.eval).toArray) hs.h (by simpa using (VRs.cons h1 hr))).mono ?_
    rintro e w' ⟨v, rv, H', μ', rfl, q2, q3, q4, q5, q6, q7, q8, q9⟩
    exact hk v rv H' w' μ' q2 (hs.called hm q4 q5 q6 q7 q8 q9) q5 q3
theorem gop_callv {P : Program} {C : Ctx} {o : Oper} {env : Env} {H : Hp} {f : FuncId} {x : Operand} {xs : List Operand} {ts : Array TypeId} {vs : List Value} {fa fb : Array Value} {F : List Nat} {R : Value → Hp → Prop} (ho : o.op = .call { callee := .value x, args := xs.toArray, argTypes := ts }) (hf : geval env x = some (.func (.func f) fa fb)) (hc : ∀ (args : Array Value) (w : World), (callFunc f args).run P w = .ok (.enter f args) w) (hx : gargs env xs = some vs) (hm : ∀ i ∈ F, C.may i) (h : GCalls P f (fa.toList ++ vs ++ fb.toList) F H R) : GOp P C o env H R := fun N w0 Fr μ0 μ a w K Q hs he hk => by
  have hr := gargs_real he hx
  have hv := he.eval hf
  generalize hq : a.eval x = q at hv
  cases hv with
  | func fn h1 h2 =>
    rename_i fa' fb'
    have hrun : (execOp a.eval o).run P w = .ok (.enter f (fa' ++ (xs.map a.eval).toArray ++ fb')) w := by
      simp [execOp, ho, resolve, Deferred.ofValue, hq, invoke, hc]
    unfold Oper.wp
    rw [hrun]
    show Calls P f _ w _
    refine (h μ w (fa' ++ (xs.map a.eval).toArray ++ fb') hs.h (by simpa using (h1.append (hr.append h2)))).mono ?_
    rintro e w' ⟨v, rv, H', μ', rfl, q2, q3, q4, q5, q6, q7, q8, q9⟩
    exact hk v rv H' w' μ' q2 (hs.called hm q4 q5 q6 q7 q8 q9) q5 q3
section
variable {P : Program} {T : Tab} {C : Ctx} {o : Oper} {env : Env} {E : Tr Value} {H : PH} {β : Type} {r : β}
theorem icall_sound {call : CallF} (hT : T.ok P) (hcall : CallOk P call) (hC : CL C H) (hs : Sees env E (o.op.operands.toList.flatMap opTmps)) {c : Call} (ho : o.op = .call c) {K : Value → PH → Option β} (h : icall T call E H c K = some r) : IOk P C o env H K r := by
  obtain ⟨callee, args, ts⟩ := c
  unfold icall at h
  simp only at h
  split at h
  · rename_i x
    split at h
    · rename_i f fa fb hf
      split at h
      · rename_i vs hvs
        split at h
        · rename_i v H' hc
          obtain ⟨h1, h2, h3⟩ := hcall _ _ _ _ _ hc
          have e1 := opd_geval (env := env) (fun s hz => hs s (by rw [ho]; simp [Op.operands, Call.operands, hz])) hf
          have e2 := iargs_eq (env := env) (fun s hz => hs s (by rw [ho]; simp only [Op.operands, Call.operands, Array.toList_append, List.flatMap_append, List.mem_append]; exact .inr hz)) hvs
          exact ⟨v, H', gop_callv (xs := args.toList) (by rw [ho]) e1 h1 e2 (fun i hi => by obtain ⟨b, hb⟩ := live_mem hi; exact hC.2 i b hb) h2, h, h3⟩
        · cases h
      · cases h
    · cases h
  · rename_i x name
    split at h
    · rename_i t u hf
      split at h
      · rename_i ti ht
        split at h
        · rename_i f hme
          split at h
          · rename_i vs hvs
            split at h
            · rename_i v H' hc
              obtain ⟨h1, h2, h3⟩ := hcall _ _ _ _ _ hc
              have e1 := opd_geval (env := env) (fun s hz => hs s (by rw [ho]; simp [Op.operands, Call.operands, hz])) hf
              have e2 := iargs_eq (env := env) (fun s hz => hs s (by rw [ho]; simp only [Op.operands, Call.operands, Array.toList_append, List.flatMap_append, List.mem_append]; exact .inr hz)) hvs
              exact ⟨v, H', gop_invoke (xs := args.toList) (by rw [ho]) e1 (Tab.meth hT ht hme) h1 e2 (fun i hi => by obtain ⟨b, hb⟩ := live_mem hi; exact hC.2 i b hb) h2, h, h3⟩
            · cases h
          · cases h
        · cases h
      · cases h
    · cases h
  · cases h
/-- One operation that is to be done. -/
noncomputable def iop (call : CallF) (T : Tab) (E : Tr Value) (H : PH) (o : Oper) (K : Value → PH → Option β) : Option β := match ird T E H o.op with
  | some v => K v H
  | none => match o.op with
    | .call c => match c.callee with
      | .builtin _ => iwr T E H o.op K
      | _ => icall T call E H c K
    | _ => iwr T E H o.op K
theorem iop_sound {call : CallF} (hT : T.ok P) (hcall : CallOk P call) (hC : CL C H) (hs : Sees env E (o.op.operands.toList.flatMap opTmps)) {K : Value → PH → Option β} (h : iop call T E H o K = some r) : IOk P C o env H K r := by
  unfold iop at h
  split at h
  · rename_i v hv
    obtain ⟨Ts, hg⟩ := ird_sound hT hs hv
    exact ⟨v, H, hg.op, h, .refl _⟩
  · split at h
    · rename_i c hc
      split at h
      · exact iwr_sound hT hC hs h
      · exact icall_sound hT hcall hC hs hc h
    · exact iwr_sound hT hC hs h
end
/-- Operations, one behind the other. -/
noncomputable def iops (call : CallF) (T : Tab) (N : Nat) (ops : List Oper) : List Oper → Tr Value → PH → Option (Tr Value × PH)
  | [], E, H => some (E, H)
  | o :: l, E, H => match igd ops E o with
    | some b => bsel b
      (iop call T E H o fun v H' => setE (frc o.op) N E o.dst v fun E' => iops call T N ops l E' H')
      (setE false N E o.dst undef fun E' => iops call T N ops l E' H)
    | none => none
/-- The walk of code, on tries. -/
def IPost (N : Nat) (C : Ctx) (w0 : World) (Fr : List Nat) (μ0 : Ren) (e0 : Exit) (E : Tr Value) (H : PH) : Exit → Act → World → Prop := fun e a w => e = e0 ∧ ∃ μ, Sim C w0 Fr μ0 μ H.abs w ∧ ERt μ N E (fun _ => False) a
section
variable {P : Program} {T : Tab} {C : Ctx}
theorem sees_big (E : Tr Value) (ts : List Nat) : ∃ env, Sees env E ts := by
  have : ∃ n, ∀ t ∈ ts, t < n := by
    induction ts with
    | nil => exact ⟨0, fun t h => by cases h⟩
    | cons a l ih =>
      obtain ⟨n, hn⟩ := ih
      exact ⟨max (a + 1) n, fun t h => by
        rcases List.mem_cons.1 h with rfl | h
        · omega
        · have := hn t h; omega⟩
  obtain ⟨n, hn⟩ := this
  exact ⟨envR E (fun _ => False) n, fun t ht v hv => envR_get (hn t ht) id hv⟩
theorem iop_mono {call : CallF} {o : Oper} {E : Tr Value} {H : PH} {β : Type} {r : β} (hT : T.ok P) (hcall : CallOk P call) {K : Value → PH → Option β} (h : iop call T E H o K = some r) : ∃ v H', K v H' = some r ∧ Mono H H' := by
  obtain ⟨env, he⟩ := sees_big E (o.op.operands.toList.flatMap opTmps)
  obtain ⟨v, H', _, h1, h2⟩ := iop_sound (C := ⟨[], 0⟩) hT hcall (CL.all H) he h
  exact ⟨v, H', h1, h2⟩
theorem iops_mono {call : CallF} (hT : T.ok P) (hcall : CallOk P call) {N : Nat} {ops : List Oper} : ∀ (l : List Oper) (E : Tr Value) (H : PH) (E' : Tr Value) (H' : PH), iops call T N ops l E H = some (E', H') → Mono H H'
  | [], E, H, E', H', h => by
    simp only [iops, Option.some.injEq, Prod.mk.injEq] at h
    obtain ⟨rfl, rfl⟩ := h
    exact .refl _
  | o :: l, E, H, E', H', h => by
    unfold iops at h
    split at h
    · rename_i b hb
      replace h := bsel_c h; rcases h with ⟨h1, h⟩ | ⟨h1, h⟩
      · obtain ⟨v, H2, h, hm⟩ := iop_mono hT hcall h
        obtain ⟨hd, h⟩ := setE_t h
        exact hm.trans (iops_mono hT hcall l _ _ _ _ h)
      · obtain ⟨hd, h⟩ := setE_t h
        exact iops_mono hT hcall l _ _ _ _ h
    · cases h
theorem iops_sound {call : CallF} (hT : T.ok P) (hcall : CallOk P call) {N : Nat} (hN : N ≤ trMax) {ops : List Oper} : ∀ (l : List Oper) (E : Tr Value) (H : PH) (E' : Tr Value) (H' : PH), iops call T N ops l E H = some (E', H') → CL C H →
    ∀ w0 Fr μ0 μ a w, Sim C w0 Fr μ0 μ H.abs w → ERt μ N E (fun _ => False) a → wpList P ops.toArray (IPost N C w0 Fr μ0 .normal E' H') l a w
  | [], E, H, E', H', h, hC, w0, Fr, μ0, μ, a, w, hs, he => by
    simp only [iops, Option.some.injEq, Prod.mk.injEq] at h
    obtain ⟨rfl, rfl⟩ := h
    exact wpList_nil ⟨rfl, μ, hs, he⟩
  | o :: l, E, H, E', H', h, hC, w0, Fr, μ0, μ, a, w, hs, he => by
    unfold iops at h
    have hsee : Sees (envR E (fun _ => False) N) E (looks ops o) := he.sees fun _ _ => id
    split at h
    · rename_i b hb
      have hw := igd_real he.er hsee hb
      replace h := bsel_c h; rcases h with ⟨h1, h⟩ | ⟨h1, h⟩
      · subst h1
        obtain ⟨v, H2, hg, h, hm⟩ := iop_sound (C := C) hT hcall hC hsee.left h
        obtain ⟨hd, h⟩ := setE_t h
        refine wpList_step fun K hK => ?_
        rw [hw, if_pos rfl]
        exact hg N w0 Fr μ0 μ a w K _ hs he.er fun u rv X w' μ' ⟨e1, e2⟩ hs' hx hv => by
          subst e1 e2
          exact hK _ _ (iops_sound hT hcall hN l _ _ _ _ h (hC.mono hm) w0 Fr μ0 μ' _ w' hs' ((he.mono hx).put hN hd hv))
      · subst h1
        obtain ⟨hd, h⟩ := setE_t h
        refine wpList_step fun K hK => ?_
        rw [hw, if_neg (by simp)]
        exact hK _ _ (iops_sound hT hcall hN l _ _ _ _ h hC w0 Fr μ0 μ _ w hs (he.put hN hd (.tuple .nil)))
    · cases h
end
end Go.Proofs.Ytcbngjpihcemiaa
