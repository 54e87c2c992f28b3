/- The quick heap: tables of functions; calls out of nothing. -/
import Derived.Test.YtcbngjpihcemiaaIj
namespace Go.Proofs.Ytcbngjpihcemiaa
open Go.RowKit

/-- A trie out of a list. -/
noncomputable def ofL {α : Type} : List (Nat × α) → Tr α → Tr α
  | [], t => t
  | p :: l, t => Tr.setK 64 t p.1 (some p.2) fun t => ofL l t
theorem ofL_get {α : Type} {k : Nat} {a : α} : ∀ {l : List (Nat × α)} {t : Tr α}, (∀ p ∈ l, p.1 < trMax) → (ofL l t).get k = some a → (k, a) ∈ l ∨ t.get k = some a
  | [], t, _, h => .inr h
  | p :: l, t, hl, h => by
    rw [ofL, Tr.setK_eq] at h
    rcases ofL_get (fun q hq => hl q (List.mem_cons_of_mem _ hq)) h with h1 | h1
    · exact .inl (List.mem_cons_of_mem _ h1)
    · rw [Tr.get_set (hl p (List.mem_cons_self ..))] at h1
      by_cases e : k = p.1
      · rw [if_pos e] at h1
        injection h1 with h1
        have : (k, a) = p := by rw [e, ← h1]
        rw [this]
        exact .inl (List.mem_cons_self ..)
      · rw [if_neg e] at h1
        exact .inr h1
/-- One function is the program's. -/
def FEOk (P : Program) (p : Nat × FE) : Prop := p.1 < trMax ∧ p.2.N ≤ trMax ∧ codeOk p.2.N p.2.dr p.2.code = true ∧ (∀ (ars : Array Value) (w : World), (callFunc p.1 ars).run P w = .ok (.enter p.1 ars) w) ∧ ∃ fn, P.funcs[p.1]? = some fn ∧ fn.body = some p.2.code ∧ fn.results = p.2.res.toArray ∧ fn.ntmps = p.2.N
inductive FLOk (P : Program) : List (Nat × FE) → Prop
  | nil : FLOk P []
  | cons {p : Nat × FE} {l : List (Nat × FE)} (h : FEOk P p) (hs : FLOk P l) : FLOk P (p :: l)
theorem FLOk.mem {P : Program} : ∀ {l : List (Nat × FE)}, FLOk P l → ∀ p ∈ l, FEOk P p
  | _, .nil, p, h => by cases h
  | _, .cons h hs, p, hp => by
    rcases List.mem_cons.1 hp with rfl | hp
    · exact h
    · exact hs.mem p hp
theorem FLOk.app {P : Program} : ∀ {l m : List (Nat × FE)}, FLOk P l → FLOk P m → FLOk P (l ++ m)
  | _, _, .nil, k => k
  | _, _, .cons h hs, k => .cons h (hs.app k)
theorem FLOk.ok {P : Program} {l : List (Nat × FE)} (h : FLOk P l) : FTOk P (ofL l .e) := fun f fe hf => by
  rcases ofL_get (fun p hp => (h.mem p hp).1) hf with h1 | h1
  · obtain ⟨_, h2, h3, h4, h5⟩ := h.mem _ h1
    exact ⟨h2, h3, h4, h5⟩
  · cases h1
/-- No function is known beside. -/
def noS : CallF := fun _ _ _ => none
theorem noS_ok (P : Program) : CallOk P noS := fun _ _ _ _ _ h => by cases h
/-- A call, as it is run. -/
noncomputable def runF (FT : Tr FE) (S : CallF) (T : Tab) (n : Nat) : CallF := icallF FT S T (run FT S T n)
section
variable {P : Program} {T : Tab} {FT : Tr FE} {S : CallF}
theorem runF_ok (hT : T.ok P) (hm : P.follows .mixedOrders = true) (hF : FTOk P FT) (hS : CallOk P S) (n : Nat) : CallOk P (runF FT S T n) := by
  intro f args H v H' h
  unfold runF icallF at h
  split at h
  · rename_i r hr
    injection h with h
    subst h
    exact hS f args H v H' hr
  · split at h
    · rename_i fe hfe
      obtain ⟨g1, g2, g3, fn, g4, g5, g6, g7⟩ := hF f fe hfe
      replace h := bsel_t h; obtain ⟨h1, h⟩ := h
      rw [argsE_eq] at h
      refine ⟨g3, ?_⟩
      split at h
      · rename_i e E' H2 hr
        obtain ⟨hmn, hw0⟩ := run_sound hT hm hF hS n fe.N fe.dr fe.code _ H e E' H2 hr g2 g1
        have hw := fun w0 Fr μ0 μ a w hs he => hw0 ⟨live H, H.n⟩ (mayAll H) w0 Fr μ0 μ a w hs he
        split at h
        · split at h
          · rename_i vs hvs
            injection h with h
            injection h with e1 e2
            subst e1 e2
            exact ⟨calls_run hT g4 g5 g6 g7 g1 (ble_le h1) hw (.inl rfl) hvs, hmn⟩
          · cases h
        · split at h
          · rename_i vs hvs
            injection h with h
            injection h with e1 e2
            subst e1 e2
            exact ⟨calls_run hT g4 g5 g6 g7 g1 (ble_le h1) hw (.inr rfl) hvs, hmn⟩
          · cases h
        · cases h
      · cases h
    · cases h
/-- The empty heap. -/
def PH0 : PH := ⟨0, .e⟩
theorem PH0_abs : PH0.abs = [] := rfl
theorem SimH.nothing (w : World) : SimH (fun _ => none) [] w := ⟨fun i b h => by simp [Hp.at] at h, fun i L h => (by cases h), fun i j b b' L L' h => by simp [Hp.at] at h⟩
/-- Out of nothing: what comes is plain. -/
theorem call_plain {f : FuncId} {args : List Value} {F : List Nat} {R : Value → Prop} (h : GCalls P f args F [] (fun u _ => R u)) (hp : ∀ v, R v → plainB v = true) (ha : ∀ v ∈ args, plainB v = true) (w : World) : Calls P f args.toArray w (fun e w' => ∃ v, e = .returned v ∧ R v ∧ Below w.heap.size w w') := by
  refine (h (fun _ => none) w args.toArray (.nothing w) (by simpa using VRs.plain ha)).mono ?_
  rintro e w' ⟨v, rv, H', μ', rfl, q2, q3, _, _, q6, _⟩
  have himg : img (fun _ => none) F = [] := by
    unfold img
    rw [List.filterMap_eq_nil_iff]
    intro a _
    rfl
  rw [himg] at q6
  obtain rfl := q3.plain_eq (hp v q2)
  exact ⟨rv, rfl, q2, q6.below (fun g hg => by cases hg) (Nat.le_refl _)⟩
/-- Is it so that the call comes to this plain value? -/
noncomputable def comesTo (FT : Tr FE) (S : CallF) (T : Tab) (n : Nat) (f : Nat) (args : List Value) (r : Value) : Bool := match runF FT S T n f args PH0 with
  | some (v, _) => veq1 v r && plainB r
  | none => false
theorem comesTo_calls (hT : T.ok P) (hm : P.follows .mixedOrders = true) (hF : FTOk P FT) (hS : CallOk P S) {n f : Nat} {args : List Value} {r : Value} (h : comesTo FT S T n f args r = true) : plainB r = true ∧ GCalls P f args [] [] (fun u _ => u = r) := by
  unfold comesTo at h
  split at h
  · rename_i v H' hr
    replace h := and_t h
    obtain rfl := veq1_eq h.1
    have := (runF_ok hT hm hF hS n f args PH0 v H' hr).2.1
    exact ⟨h.2, this.mono fun u X hu => hu.1⟩
  · cases h
/-- The same, wherever the heap is. -/
theorem comesTo_any (hT : T.ok P) (hm : P.follows .mixedOrders = true) (hF : FTOk P FT) (hS : CallOk P S) {n f : Nat} {r : Value} (h : comesTo FT S T n f [] r = true) (H : Hp) : GCalls P f [] [] H (fun u X => u = r ∧ X = H) := by
  obtain ⟨h1, h2⟩ := comesTo_calls hT hm hF hS h
  refine (GCalls.of (R := fun u => u = r) fun μ w rargs hs hv => ?_).mono fun u X hu => hu
  have hr : rargs = #[] := by
    have := hv.length
    simp at this
    exact Array.eq_empty_of_size_eq_zero this.symm
  subst hr
  refine (call_plain h2 (fun v hv => by rw [hv]; exact h1) (by simp) w).mono ?_
  rintro e w' ⟨v, rfl, rfl, q⟩
  exact ⟨v, v, rfl, rfl, .plain h1, q⟩
/-- Contracts proved elsewhere, by function. -/
abbrev OFn := List Value → PH → Option (Value × PH)
def OEOk (P : Program) (p : Nat × OFn) : Prop := p.1 < trMax ∧ ∀ args H v H', p.2 args H = some (v, H') → (∀ (ars : Array Value) (w : World), (callFunc p.1 ars).run P w = .ok (.enter p.1 ars) w) ∧ GCalls P p.1 args (live H) H.abs (fun u X => u = v ∧ X = H'.abs) ∧ Mono H H'
noncomputable def orc (l : List (Nat × OFn)) : CallF := fun f args H => match (ofL l .e).get f with
  | some g => g args H
  | none => none
theorem orc_ok {l : List (Nat × OFn)} (h : ∀ p ∈ l, OEOk P p) : CallOk P (orc l) := by
  intro f args H v H' hr
  unfold orc at hr
  split at hr
  · rename_i g hg
    rcases ofL_get (fun p hp => (h p hp).1) hg with h1 | h1
    · exact (h _ h1).2 args H v H' hr
    · cases h1
  · cases hr
theorem GCalls.widen {f : FuncId} {args : List Value} {F G : List Nat} {H : Hp} {R : Value → Hp → Prop} (h : GCalls P f args F H R) (hF : ∀ i ∈ F, i ∈ G) : GCalls P f args G H R := fun μ w rargs hs hv => by
  have key : ∀ g ∈ img μ F, g ∈ img μ G := fun g hg => by
    obtain ⟨i, L, h1, h2, rfl⟩ := img_mem hg
    exact mem_img (hF i h1) h2
  refine (h μ w rargs hs hv).mono ?_
  rintro e w' ⟨v, rv, H', μ', q1, q2, q3, q4, q5, q6, q7, q8⟩
  exact ⟨v, rv, H', μ', q1, q2, q3, q4, q5, q6.sub (fun g hg => .inl (key g hg)), fun i L hi hL => (q7 i L hi hL).imp (key _) id, q8⟩
/-- What bears no address, in parts. -/
def plainD (v : Value) : Bool := match v with
  | .agg cs => cs.toList.all plainB
  | .tuple cs => cs.toList.all plainB
  | v => plainB v
theorem VRs.plainL {μ : Ren} : ∀ {l : List Value}, l.all plainB = true → VRs μ l l := fun {l} h => VRs.plain (by simpa [List.all_eq_true] using h)
theorem VR.plainD {μ : Ren} {v : Value} (h : plainD v = true) : VR μ v v := by
  unfold Go.Proofs.Ytcbngjpihcemiaa.plainD at h
  split at h
  · exact .agg (.plainL h)
  · exact .tuple (.plainL h)
  · exact .plain h
theorem VRs.plainL_eq {μ : Ren} {l l' : List Value} (h : VRs μ l l') (hp : l.all plainB = true) : l' = l := h.plain_eq (by simpa [List.all_eq_true] using hp)
theorem VR.plainD_eq {μ : Ren} {v v' : Value} (h : VR μ v v') (hp : Go.Proofs.Ytcbngjpihcemiaa.plainD v = true) : v' = v := by
  unfold Go.Proofs.Ytcbngjpihcemiaa.plainD at hp
  split at hp
  · cases h with
    | agg hs =>
      have := hs.plainL_eq hp
      rw [Array.toList_inj.1 this]
  · cases h with
    | tuple hs =>
      have := hs.plainL_eq hp
      rw [Array.toList_inj.1 this]
  · exact h.plain_eq hp
theorem VRs.plainDs {μ : Ren} : ∀ {l : List Value}, l.all Go.Proofs.Ytcbngjpihcemiaa.plainD = true → VRs μ l l
  | [], _ => .nil
  | v :: l, h => by
    rw [List.all_cons] at h
    replace h := and_t h
    exact .cons (.plainD h.1) (VRs.plainDs h.2)
theorem VRs.plainDs_eq {μ : Ren} : ∀ {l l' : List Value}, VRs μ l l' → l.all Go.Proofs.Ytcbngjpihcemiaa.plainD = true → l' = l
  | [], _, .nil, _ => rfl
  | v :: l, _, .cons hv hs, h => by
    rw [List.all_cons] at h
    replace h := and_t h
    rw [hv.plainD_eq h.1, VRs.plainDs_eq hs h.2]
noncomputable def veqD (u v : Value) : Bool := match u with
  | .tuple a => match v with
    | .tuple b => veqL a.toList b.toList
    | _ => false
  | u => veq u v
theorem veqD_eq {u v : Value} (h : veqD u v = true) : u = v := by
  unfold veqD at h
  split at h
  · split at h
    · rw [Array.toList_inj.1 (veqL_eq h)]
    · cases h
  · exact veq_eq h
/-- Is it so that the call of plain arguments comes to this plain value? -/
noncomputable def comesD (FT : Tr FE) (S : CallF) (T : Tab) (n : Nat) (f : Nat) (args : List Value) (r : Value) : Bool := match runF FT S T n f args PH0 with
  | some (v, _) => veqD v r && plainD r && args.all plainD
  | none => false
theorem comesD_at (hT : T.ok P) (hm : P.follows .mixedOrders = true) (hF : FTOk P FT) (hS : CallOk P S) {n f : Nat} {args : List Value} {r : Value} (h : comesD FT S T n f args r = true) (H : Hp) : GCalls P f args [] H (fun u X => u = r ∧ X = H) := by
  unfold comesD at h
  split at h
  · rename_i v H' hr
    replace h := and_t h; obtain ⟨h, h3⟩ := h
    replace h := and_t h; obtain ⟨h1, h2⟩ := h
    obtain rfl := veqD_eq h1
    have hc := (runF_ok hT hm hF hS n f args PH0 v H' hr).2.1
    refine (GCalls.of (R := fun u => u = v) fun μ w rargs hs hv => ?_).mono fun u X hu => hu
    have e := hv.plainDs_eq h3
    refine (hc (fun _ => none) w rargs (.nothing w) (by rw [e]; exact .plainDs h3)).mono ?_
    rintro e w' ⟨v', rv, H', μ', rfl, ⟨rfl, _⟩, q3, _, _, q6, _⟩
    have hi : img (fun _ => none) (live PH0) = [] := rfl
    rw [hi] at q6
    obtain rfl := q3.plainD_eq h2
    exact ⟨rv, rv, rfl, rfl, .plainD h2, q6.below (fun g hg => by cases hg) (Nat.le_refl _)⟩
  · cases h
/-- A walk that comes to a run. -/
theorem GWP.run (hT : T.ok P) (hm : P.follows .mixedOrders = true) (hF : FTOk P FT) (hS : CallOk P S) {n N : Nat} {dr : Tr (List PSeg)} {c : Code} {E E' : Tr Value} {H H' : PH} {e : Exit} (h : Go.Proofs.Ytcbngjpihcemiaa.run FT S T n N dr c E H = some (e, E', H')) (hok : codeOk N dr c = true) (hN : N ≤ trMax) {C : Ctx} (hC : CL C H) {env : Env} {Q : Exit → Env → Hp → Prop}
    (hs : ∀ s v, E.get s = some v → env.get s = some v) (k : ∀ env', (∀ s v, E'.get s = some v → env'.get s = some v) → Q e env' H'.abs) : GWP P N C c Q env H.abs := fun w0 Fr μ0 μ a w hsim he => by
  refine wp_mono ((run_sound hT hm hF hS n N dr c E H e E' H' h hok hN).2 C hC w0 Fr μ0 μ a w hsim ⟨he.size, he.defers, fun s v hv _ => he.val s v (hs s v hv)⟩) ?_
  rintro e2 a' w' ⟨rfl, μ', q1, q2⟩
  exact ⟨μ', _, _, q1, q2.er, k _ fun s v hv => envR_get (q2.lt hv id) id hv⟩
/-- Does the rest of a function come to this plain value? -/
noncomputable def endsD (FT : Tr FE) (S : CallF) (T : Tab) (n N : Nat) (dr : Tr (List PSeg)) (c : Code) (E : Tr Value) (H : PH) (s : Nat) (r : Value) : Bool := match Go.Proofs.Ytcbngjpihcemiaa.run FT S T n N dr c E H with
  | some (e, E', _) => match e with
    | .ret => match E'.get s with
      | some v => veqD v r
      | none => false
    | .normal => match E'.get s with
      | some v => veqD v r
      | none => false
    | _ => false
  | none => false
theorem GWP.ends (hT : T.ok P) (hm : P.follows .mixedOrders = true) (hF : FTOk P FT) (hS : CallOk P S) {n N : Nat} {dr : Tr (List PSeg)} {c : Code} {E : Tr Value} {H : PH} {s : Nat} {r : Value} (h : endsD FT S T n N dr c E H s r = true) (hok : codeOk N dr c = true) (hN : N ≤ trMax) {C : Ctx} (hC : CL C H) {env : Env} {R : Value → Hp → Prop}
    (hs : ∀ s v, E.get s = some v → env.get s = some v) (hR : ∀ X, R r X) : GWP P N C c (gend T [.tmp s] R) env H.abs := by
  unfold endsD at h
  split at h
  · rename_i e E' H' hr
    refine GWP.run hT hm hF hS hr hok hN hC hs fun env' hk => ?_
    split at h
    · split at h
      · rename_i v hv
        obtain rfl := veqD_eq h
        exact ⟨v, .one (hk s v hv), hR _⟩
      · cases h
    · split at h
      · rename_i v hv
        obtain rfl := veqD_eq h
        exact ⟨v, .one (hk s v hv), hR _⟩
      · cases h
    · cases h
  · cases h
end
end Go.Proofs.Ytcbngjpihcemiaa
