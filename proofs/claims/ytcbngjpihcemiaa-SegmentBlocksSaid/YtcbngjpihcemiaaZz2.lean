/- The quick heap: tables of functions; calls out of nothing. -/
import Derived.Test.YtcbngjpihcemiaaZz1
import Derived.Test.YtcbngjpihcemiaaZz0
import Derived.HandedShaped
import Derived.Test.YtcbngjpihcemiaaChecked
import Derived.WalkLawsBesides
import Derived.RegionTactic
import Derived.Laws.BitsAllLaws
import Derived.Deep.DeepCutAuto
import Derived.Deep.RegionHeld3
import Derived.StillTail
namespace Go.Proofs.Ytcbngjpihcemiaa
open Go.RowKit

/-- A trie out of a list. -/
noncomputable def ofL {α : Type} : List (Nat × α) → Tr α → Tr α
  | [], t => t
  | p :: l, t => Tr.setK 64 t p.1 (some p.2) fun t => ofL l t
theorem ofL_get {α : Type} {k : Nat} {a : α} : ∀ {l : List (Nat × α)} {t : Tr α}, (∀ p ∈ l, p.1 < trMax) → (ofL l t).get k = some a → (k, a) ∈ l ∨ t.get k = some a
  | [], t, _, h => .inr h
  | p :: l, t, hl, h => by
    rw [ofL, Tr.setK_eq] at h
    rcases ofL_get (fun q hq => hl q (List.mem_cons_of_mem _ hq)) h with h1 | h1
    · exact .inl (List.mem_cons_of_mem _ h1)
    · rw [Tr.get_set (hl p (List.mem_cons_self ..))] at h1
      by_cases e : k = p.1
      · rw [if_pos e] at h1
        injection h1 with h1
        have : (k, a) = p := by rw [e, ← h1]
        rw [this]
        exact .inl (List.mem_cons_self ..)
      · rw [if_neg e] at h1
        exact .inr h1
/-- One function is the program's. -/
def FEOk (P : Program) (p : Nat × FE) : Prop := p.1 < trMax ∧ p.2.N ≤ trMax ∧ codeOk p.2.N p.2.dr p.2.code = true ∧ (∀ (ars : Array Value) (w : World), (callFunc p.1 ars).run P w = .ok (.enter p.1 ars) w) ∧ ∃ fn, P.funcs[p.1]? = some fn ∧ fn.body = some p.2.code ∧ fn.results = p.2.res.toArray ∧ fn.ntmps = p.2.N
inductive FLOk (P : Program) : List (Nat × FE) → Prop
  | nil : FLOk P []
  | cons {p : Nat × FE} {l : List (Nat × FE)} (h : FEOk P p) (hs : FLOk P l) : FLOk P (p :: l)
theorem FLOk.mem {P : Program} : ∀ {l : List (Nat × FE)}, FLOk P l → ∀ p ∈ l, FEOk P p
  | _, .nil, p, h => by cases h
  | _, .cons h hs, p, hp => by
    rcases List.mem_cons.1 hp with rfl | hp
    · exact h
    · exact hs.mem p hp
theorem FLOk.app {P : Program} : ∀ {l m : List (Nat × FE)}, FLOk P l → FLOk P m → FLOk P (l ++ m)
  | _, _, .nil, k => k
  | _, _, .cons h hs, k => .cons h (hs.app k)
theorem FLOk.ok {P : Program} {l : List (Nat × FE)} (h : FLOk P l) : FTOk P (ofL l .e) := fun f fe hf => by
  rcases ofL_get (fun p hp => (h.mem p hp).1) hf with h1 | h1
  · obtain ⟨_, h2, h3, h4, h5⟩ := h.mem _ h1
    exact ⟨h2, h3, h4, h5⟩
  · cases h1
/-- No function is known beside. -/
def noS : CallF := fun _ _ _ => none
theorem noS_ok (P : Program) : CallOk P noS := fun _ _ _ _ _ h => by cases h
/-- A call, as it is run. -/
noncomputable def runF (FT : Tr FE) (S : CallF) (T : Tab) (n : Nat) : CallF := icallF FT S T (run FT S T n)
section
variable {P : Program} {T : Tab} {FT : Tr FE} {S : CallF}
theorem runF_ok (hT : T.ok P) (hm : P.follows .mixedOrders = true) (hF : FTOk P FT) (hS : CallOk P S) (n : Nat) : CallOk P (runF FT S T n) := by
  intro f args H v H' h
  unfold runF icallF at h
  split at h
  · rename_i r hr
    injection h with h
    subst h
    exact hS f args H v H' hr
  · split at h
    · rename_i fe hfe
      obtain ⟨g1, g2, g3, fn, g4, g5, g6, g7⟩ := hF f fe hfe
      replace h := bsel_t h; obtain ⟨h1, h⟩ := h
      rw [argsE_eq] at h
      refine ⟨g3, ?_⟩
      split at h
      · rename_i e E' H2 hr
        obtain ⟨hmn, hw0⟩ := run_sound hT hm hF hS n fe.N fe.dr fe.code _ H e E' H2 hr g2 g1
        have hw := fun w0 Fr μ0 μ a w hs he => hw0 ⟨live H, H.n⟩ (mayAll H) w0 Fr μ0 μ a w hs he
        split at h
        · split at h
          · rename_i vs hvs
            injection h with h
            injection h with e1 e2
            subst e1 e2
            exact ⟨calls_run hT g4 g5 g6 g7 g1 (ble_le h1) hw (.inl rfl) hvs, hmn⟩
          · cases h
        · split at h
          · rename_i vs hvs
            injection h with h
            injection h with e1 e2
            subst e1 e2
            exact ⟨calls_run hT g4 g5 g6 g7 g1 (ble_le h1) hw (.inr rfl) hvs, hmn⟩
          · cases h
        · cases h
      · cases h
    · cases h
/-- The empty heap. -/
def PH0 : PH := ⟨0, .e⟩
theorem PH0_abs : PH0.abs = [] := rfl
theorem SimH.nothing (w : World) : SimH (fun _ => none) [] w := ⟨fun i b h => by simp [Hp.at] at h, fun i L h => (by cases h), fun i j b b' L L' h => by simp [Hp.at] at h⟩
/-- Out of nothing: what comes is plain. -/
theorem call_plain {f : FuncId} {args : List Value} {F : List Nat} {R : Value → Prop} (h : GCalls P f args F [] (fun u _ => R u)) (hp : ∀ v, R v → plainB v = true) (ha : ∀ v ∈ args, plainB v = true) (w : World) : Calls P f args.toArray w (fun e w' => ∃ v, e = .returned v ∧ R v ∧ Below w.heap.size w w') := by
  refine (h (fun _ => none) w args.toArray (.nothing w) (by simpa using VRs.plain ha)).mono ?_
  rintro e w' ⟨v, rv, H', μ', rfl, q2, q3, _, _, q6, _⟩
  have himg : img (fun _ => none) F = [] := by
    unfold img
    rw [List.filterMap_eq_nil_iff]
    intro a _
    rfl
  rw [himg] at q6
  obtain rfl := q3.plain_eq (hp v q2)
  exact ⟨rv, rfl, q2, q6.below (fun g hg => by cases hg) (Nat.le_refl _)⟩
/-- Is it so that the call comes to this plain value? -/
noncomputable def comesTo (FT : Tr FE) (S : CallF) (T : Tab) (n : Nat) (f : Nat) (args : List Value) (r : Value) : Bool := match runF FT S T n f args PH0 with
  | some (v, _) => veq1 v r && plainB r
  | none => false
theorem comesTo_calls (hT : T.ok P) (hm : P.follows .mixedOrders = true) (hF : FTOk P FT) (hS : CallOk P S) {n f : Nat} {args : List Value} {r : Value} (h : comesTo FT S T n f args r = true) : plainB r = true ∧ GCalls P f args [] [] (fun u _ => u = r) := by
  unfold comesTo at h
  split at h
  · rename_i v H' hr
    replace h := and_t h
    obtain rfl := veq1_eq h.1
    have := (runF_ok hT hm hF hS n f args PH0 v H' hr).2.1
    exact ⟨h.2, this.mono fun u X hu => hu.1⟩
  · cases h
/-- The same, wherever the heap is. -/
theorem comesTo_any (hT : T.ok P) (hm : P.follows .mixedOrders = true) (hF : FTOk P FT) (hS : CallOk P S) {n f : Nat} {r : Value} (h : comesTo FT S T n f [] r = true) (H : Hp) : GCalls P f [] [] H (fun u X => u = r ∧ X = H) := by
  obtain ⟨h1, h2⟩ := comesTo_calls hT hm hF hS h
  refine (GCalls.of (R := fun u => u = r) fun μ w rargs hs hv => ?_).mono fun u X hu => hu
  have hr : rargs = #[] := by
    have := hv.length
    simp at this
    exact Array.eq_empty_of_size_eq_zero this.symm
  subst hr
  refine (call_plain h2 (fun v hv => by rw [hv]; exact h1) (by simp) w).mono ?_
  rintro e w' ⟨v, rfl, rfl, q⟩
  exact ⟨v, v, rfl, rfl, .plain h1, q⟩
/-- Contracts proved elsewhere, by function. -/
abbrev OFn := List Value → PH → Option (Value × PH)
def OEOk (P : Program) (p : Nat × OFn) : Prop := p.1 < trMax ∧ ∀ args H v H', p.2 args H = some (v, H') → (∀ (ars : Array Value) (w : World), (callFunc p.1 ars).run P w = .ok (.enter p.1 ars) w) ∧ GCalls P p.1 args (live H) H.abs (fun u X => u = v ∧ X = H'.abs) ∧ Mono H H'
noncomputable def orc (l : List (Nat × OFn)) : CallF := fun f args H => match (ofL l .e).get f with
  | some g => g args H
  | none => none
theorem orc_ok {l : List (Nat × OFn)} (h : ∀ p ∈ l, OEOk P p) : CallOk P (orc l) := by
  intro f args H v H' hr
  unfold orc at hr
  split at hr
  · rename_i g hg
    rcases ofL_get (fun p hp => (h p hp).1) hg with h1 | h1
    · exact (h _ h1).2 args H v H' hr
    · cases h1
  · cases hr
theorem GCalls.widen {f : FuncId} {args : List Value} {F G : List Nat} {H : Hp} {R : Value → Hp → Prop} (h : GCalls P f args F H R) (hF : ∀ i ∈ F, i ∈ G) : GCalls P f args G H R := fun μ w rargs hs hv => by
  have key : ∀ g ∈ img μ F, g ∈ img μ G := fun g hg => by
    obtain ⟨i, L, h1, h2, rfl⟩ := img_mem hg
    exact mem_img (hF i h1) h2
  refine (h μ w rargs hs hv).mono ?_
  rintro e w' ⟨v, rv, H', μ', q1, q2, q3, q4, q5, q6, q7, q8⟩
  exact ⟨v, rv, H', μ', q1, q2, q3, q4, q5, q6.sub (fun g hg => .inl (key g hg)), fun i L hi hL => (q7 i L hi hL).imp (key _) id, q8⟩
/-- What bears no address, in parts. -/
def plainD (v : Value) : Bool := match v with
  | .agg cs => cs.toList.all plainB
  | .tuple cs => cs.toList.all plainB
  | v => plainB v
theorem VRs.plainL {μ : Ren} : ∀ {l : List Value}, l.all plainB = true → VRs μ l l := fun {l} h => VRs.plain (by simpa [List.all_eq_true] using h)
theorem VR.plainD {μ : Ren} {v : Value} (h : plainD v = true) : VR μ v v := by
  unfold Go.Proofs.Ytcbngjpihcemiaa.plainD at h
  split at h
  · exact .agg (.plainL h)
  · exact .tuple (.plainL h)
  · exact .plain h
theorem VRs.plainL_eq {μ : Ren} {l l' : List Value} (h : VRs μ l l') (hp : l.all plainB = true) : l' = l := h.plain_eq (by simpa [List.all_eq_true] using hp)
theorem VR.plainD_eq {μ : Ren} {v v' : Value} (h : VR μ v v') (hp : Go.Proofs.Ytcbngjpihcemiaa.plainD v = true) : v' = v := by
  unfold Go.Proofs.Ytcbngjpihcemiaa.plainD at hp
  split at hp
  · cases h with
    | agg hs =>
      have := hs.plainL_eq hp
      rw [Array.toList_inj.1 this]
  · cases h with
    | tuple hs =>
      have := hs.plainL_eq hp
      rw [Array.toList_inj.1 this]
  · exact h.plain_eq hp
theorem VRs.plainDs {μ : Ren} : ∀ {l : List Value}, l.all Go.Proofs.Ytcbngjpihcemiaa.plainD = true → VRs μ l l
  | [], _ => .nil
  | v :: l, h => by
    rw [List.all_cons] at h
    replace h := and_t h
    exact .cons (.plainD h.1) (VRs.plainDs h.2)
theorem VRs.plainDs_eq {μ : Ren} : ∀ {l l' : List Value}, VRs μ l l' → l.all Go.Proofs.Ytcbngjpihcemiaa.plainD = true → l' = l
  | [], _, .nil, _ => rfl
  | v :: l, _, .cons hv hs, h => by
    rw [List.all_cons] at h
    replace h := and_t h
    rw [hv.plainD_eq h.1, VRs.plainDs_eq hs h.2]
noncomputable def veqD (u v : Value) : Bool := match u with
  | .tuple a => match v with
    | .tuple b => veqL a.toList b.toList
    | _ => false
  | u => veq u v
theorem veqD_eq {u v : Value} (h : veqD u v = true) : u = v := by
  unfold veqD at h
  split at h
  · split at h
    · rw [Array.toList_inj.1 (veqL_eq h)]
    · cases h
  · exact veq_eq h
/-- Is it so that the call of plain arguments comes to this plain value? -/
noncomputable def comesD (FT : Tr FE) (S : CallF) (T : Tab) (n : Nat) (f : Nat) (args : List Value) (r : Value) : Bool := match runF FT S T n f args PH0 with
  | some (v, _) => veqD v r && plainD r && args.all plainD
  | none => false
theorem comesD_at (hT : T.ok P) (hm : P.follows .mixedOrders = true) (hF : FTOk P FT) (hS : CallOk P S) {n f : Nat} {args : List Value} {r : Value} (h : comesD FT S T n f args r = true) (H : Hp) : GCalls P f args [] H (fun u X => u = r ∧ X = H) := by
  unfold comesD at h
  split at h
  · rename_i v H' hr
    replace h := and_t h; obtain ⟨h, h3⟩ := h
    replace h := and_t h; obtain ⟨h1, h2⟩ := h
    obtain rfl := veqD_eq h1
    have hc := (runF_ok hT hm hF hS n f args PH0 v H' hr).2.1
    refine (GCalls.of (R := fun u => u = v) fun μ w rargs hs hv => ?_).mono fun u X hu => hu
    have e := hv.plainDs_eq h3
    refine (hc (fun _ => none) w rargs (.nothing w) (by rw [e]; exact .plainDs h3)).mono ?_
    rintro e w' ⟨v', rv, H', μ', rfl, ⟨rfl, _⟩, q3, _, _, q6, _⟩
    have hi : img (fun _ => none) (live PH0) = [] := rfl
    rw [hi] at q6
    obtain rfl := q3.plainD_eq h2
    exact ⟨rv, rv, rfl, rfl, .plainD h2, q6.below (fun g hg => by cases hg) (Nat.le_refl _)⟩
  · cases h
/-- A walk that comes to a run. -/
theorem GWP.run (hT : T.ok P) (hm : P.follows .mixedOrders = true) (hF : FTOk P FT) (hS : CallOk P S) {n N : Nat} {dr : Tr (List PSeg)} {c : Code} {E E' : Tr Value} {H H' : PH} {e : Exit} (h : Go.Proofs.Ytcbngjpihcemiaa.run FT S T n N dr c E H = some (e, E', H')) (hok : codeOk N dr c = true) (hN : N ≤ trMax) {C : Ctx} (hC : CL C H) {env : Env} {Q : Exit → Env → Hp → Prop}
    (hs : ∀ s v, E.get s = some v → env.get s = some v) (k : ∀ env', (∀ s v, E'.get s = some v → env'.get s = some v) → Q e env' H'.abs) : GWP P N C c Q env H.abs := fun w0 Fr μ0 μ a w hsim he => by
  refine wp_mono ((run_sound hT hm hF hS n N dr c E H e E' H' h hok hN).2 C hC w0 Fr μ0 μ a w hsim ⟨he.size, he.defers, fun s v hv _ => he.val s v (hs s v hv)⟩) ?_
  rintro e2 a' w' ⟨rfl, μ', q1, q2⟩
  exact ⟨μ', _, _, q1, q2.er, k _ fun s v hv => envR_get (q2.lt hv id) id hv⟩
/-- Does the rest of a function come to this plain value? -/
noncomputable def endsD (FT : Tr FE) (S : CallF) (T : Tab) (n N : Nat) (dr : Tr (List PSeg)) (c : Code) (E : Tr Value) (H : PH) (s : Nat) (r : Value) : Bool := match Go.Proofs.Ytcbngjpihcemiaa.run FT S T n N dr c E H with
  | some (e, E', _) => match e with
    | .ret => match E'.get s with
      | some v => veqD v r
      | none => false
    | .normal => match E'.get s with
      | some v => veqD v r
      | none => false
    | _ => false
  | none => false
theorem GWP.ends (hT : T.ok P) (hm : P.follows .mixedOrders = true) (hF : FTOk P FT) (hS : CallOk P S) {n N : Nat} {dr : Tr (List PSeg)} {c : Code} {E : Tr Value} {H : PH} {s : Nat} {r : Value} (h : endsD FT S T n N dr c E H s r = true) (hok : codeOk N dr c = true) (hN : N ≤ trMax) {C : Ctx} (hC : CL C H) {env : Env} {R : Value → Hp → Prop}
    (hs : ∀ s v, E.get s = some v → env.get s = some v) (hR : ∀ X, R r X) : GWP P N C c (gend T [.tmp s] R) env H.abs := by
  unfold endsD at h
  split at h
  · rename_i e E' H' hr
    refine GWP.run hT hm hF hS hr hok hN hC hs fun env' hk => ?_
    split at h
    · split at h
      · rename_i v hv
        obtain rfl := veqD_eq h
        exact ⟨v, .one (hk s v hv), hR _⟩
      · cases h
    · split at h
      · rename_i v hv
        obtain rfl := veqD_eq h
        exact ⟨v, .one (hk s v hv), hR _⟩
      · cases h
    · cases h
  · cases h
end
end Go.Proofs.Ytcbngjpihcemiaa

/- A slice that comes in, of which only the length counts: over any program. -/
namespace Go.Proofs.Ytcbngjpihcemiaa
open Go.RowKit Go.ChangeShapes Go.WideShapes Go.ChangeAt

section
variable {X : Type} {enc : TypeId × Value → X} {P : Program} {w : World}
/-- The same as open_bytes, with the cells up to the capacity. -/
theorem open_bytesC {t e : TypeId} {b0 : Nat} {v : Value} {d : DataW X} {p : List MemPlace} (ht : P.underlying t = some (.slice e)) (he : P.underlying e = some (.int .u8)) (hC : P.cellsOf e = 1)
    (hv : Value.okWide P w .any b0 t v) (h : DataW.Trod enc P w 0 (fun _ => true) true t v d p) :
    ∃ (A : Option Addr) (n c : Nat) (l : List UInt8), v = .slice A n c ∧ l.length = c ∧ n ≤ c ∧ c ≤ maxLen ∧ (A = none → n = 0 ∧ c = 0) ∧ Rd w w.heap.size A (vb l) := by
  obtain ⟨A, n, c, rfl⟩ := okWide_slice ht hv
  obtain ⟨fuel, hf⟩ := h
  rcases open_ints ht he hC hf with ⟨hcs, _⟩ | ⟨x, ln, cp, zs, hcs, _, hl, hm, hz, hx, hcell, hwz⟩
  · simp [Value.cells] at hcs
    obtain ⟨rfl, rfl, rfl⟩ := hcs
    exact ⟨none, 0, 0, [], rfl, rfl, Nat.le_refl _, by simp [maxLen], fun _ => ⟨rfl, rfl⟩, Rd.nil_ _ _ _⟩
  · simp [Value.cells] at hcs
    obtain ⟨rfl, rfl, rfl⟩ := hcs
    have hz' : zs.length = c := by simpa using hz
    refine ⟨some x, n, c, zs.map fun x => UInt8.ofNat x.toNat, rfl, by simpa using hz', hl, hm, (fun h => by cases h), ?_⟩
    have e : vb (zs.map fun x => UInt8.ofNat x.toNat) = vi .u8 zs := by
      simp only [vb, vi, List.map_map]
      refine List.map_congr_left fun x hx => ?_
      have hb := wf_u8 (hwz x hx)
      have h2 : (UInt8.ofNat x.toNat).toNat = x.toNat := by simp; omega
      show Value.int .u8 ((UInt8.ofNat x.toNat).toNat : Int) = _
      rw [h2, Int.toNat_of_nonneg hb.1]
    rw [e]
    intro j u hu
    have hj : j < zs.length := by
      simp only [vi, List.getElem?_map] at hu
      rcases Nat.lt_or_ge j zs.length with q | q
      · exact q
      · rw [List.getElem?_eq_none q] at hu
        cases hu
    have hc := hcell j hj
    obtain ⟨b, off, spot⟩ := x
    have hspot : spot = none := by
      have h0 := hcell 0 (by omega)
      simpa [Addr.add] using World.cell?_spot h0
    subst hspot
    refine ⟨b, off, rfl, ?_, ?_⟩
    · rw [Addr.add_lit] at hc
      exact World.block_lt_of_cell? w _ hc
    · rw [Addr.add_lit] at hc
      rw [hc]
      simp only [vi, List.getElem?_map] at hu
      rw [List.getD_eq_getElem?_getD]
      rw [List.getElem?_eq_getElem hj] at hu ⊢
      simpa using hu
theorem shaped_pos (hs : w.ShapedOpen P) (hk : Nat.blt P.globals.size (begin P (fun _ _ => 0) default).world.heap.size = true) : 0 < w.heap.size := by
  rw [Nat.blt_eq] at hk
  obtain ⟨o, _, h, _⟩ := hs.2 P.globals.size (Nat.le_refl _) hk
  rcases Nat.lt_or_ge P.globals.size w.heap.size with q | q
  · omega
  · rw [Array.getElem?_eq_none q] at h
    cases h
/-- A slice as it came in, on the ghost side. -/
theorem slice_in {A : Option Addr} {n c : Nat} {l : List UInt8} (h0 : 0 < w.heap.size) (hl : l.length = c) (hn : n ≤ c) (hm : c ≤ maxLen) (hA : A = none → n = 0 ∧ c = 0) (hr : Rd w w.heap.size A (vb l)) :
    ∃ μ p, (p = none ∨ p = some ⟨0, 0, none⟩) ∧ SimH μ [none] w ∧ VR μ (.slice p n c) (.slice A n c) := by
  have hcap : c < capU := by unfold maxLen at hm; unfold capU; omega
  have sim : ∀ L : Loc, L.g < w.heap.size → SimH (fun i => if i = 0 then some L else none) [none] w := fun L hL => by
    have no : ∀ i (b : Blk), Hp.at [none] i = some b → False := fun i b hb => by
      match i with
      | 0 => cases hb
      | i + 1 => simp [Hp.at] at hb
    refine ⟨fun i b hb => (no i b hb).elim, fun i M hM => ?_, fun i j b b' M M' hi => (no i b hi).elim⟩
    split at hM
    · injection hM with hM
      subst hM
      exact ⟨by simp; omega, hL⟩
    · cases hM
  cases A with
  | none =>
    obtain ⟨rfl, rfl⟩ := hA rfl
    refine ⟨fun _ => none, none, .inl rfl, ⟨fun i b hb => ?_, fun i L h => (by cases h), fun i j b b' L L' _ _ h => (by cases h)⟩, .sl0⟩
    match i with
    | 0 => cases hb
    | i + 1 => simp [Hp.at] at hb
  | some a =>
    rcases Nat.eq_zero_or_pos c with hc | hc
    · exact ⟨_, some ⟨0, 0, none⟩, .inr rfl, sim ⟨0, 0, 0, 0⟩ h0, .sl (L := ⟨0, 0, 0, 0⟩) rfl hn hm (fun _ => rfl) (fun h => by omega) (fun h => by omega)⟩
    · obtain ⟨b, off, e, hb, _⟩ := hr 0 ((vb l)[0]'(by simp; omega)) (List.getElem?_eq_getElem _)
      injection e with e
      subst e
      exact ⟨_, some ⟨0, 0, none⟩, .inr rfl, sim ⟨b, off, 0, 0⟩ hb, .sl (L := ⟨b, off, 0, 0⟩) rfl hn hm (fun _ => rfl) (fun h => by omega) (fun _ => rfl)⟩
/-- A call with plain values and such a slice. -/
theorem call_slice {f : FuncId} {A : Option Addr} {n c : Nat} {l : List UInt8} {pre post : List Value} {R : Value → Prop} (h0 : 0 < w.heap.size) (hl : l.length = c) (hn : n ≤ c) (hm : c ≤ maxLen) (hA : A = none → n = 0 ∧ c = 0) (hr : Rd w w.heap.size A (vb l))
    (h : ∀ p, (p = none ∨ p = some ⟨0, 0, none⟩) → GCalls P f (pre ++ .slice p n c :: post) [] [none] (fun u _ => R u)) (hp : ∀ v, R v → plainB v = true) (ha : ∀ v ∈ pre ++ post, plainB v = true) : Calls P f (pre ++ .slice A n c :: post).toArray w (fun e w' => ∃ v, e = .returned v ∧ R v ∧ Below w.heap.size w w') := by
  obtain ⟨μ, p, q1, q2, q3⟩ := slice_in h0 hl hn hm hA hr
  refine (h p q1 μ w _ q2 (by simpa using (VRs.plain fun v hv => ha v (List.mem_append_left _ hv)).append (.cons q3 (VRs.plain fun v hv => ha v (List.mem_append_right _ hv))))).mono ?_
  rintro e w' ⟨v, rv, H', μ', rfl, k2, k3, _, _, k6, _⟩
  have hi : img μ [] = [] := rfl
  rw [hi] at k6
  obtain rfl := k3.plain_eq (hp v k2)
  exact ⟨rv, rfl, k2, k6.below (fun g hg => by cases hg) (Nat.le_refl _)⟩
end
end Go.Proofs.Ytcbngjpihcemiaa

/- Bytes in a slice, whatever slice it is. Over any program. -/
namespace Go.Proofs.Ytcbngjpihcemiaa
open Go.RowKit

/-- Bytes, and nothing else. -/
def allU8 : List Value → Bool
  | [] => true
  | .int .u8 _ :: l => allU8 l
  | _ => false
theorem allU8_vb : ∀ L : List UInt8, allU8 (vb L) = true
  | [] => rfl
  | _ :: L => allU8_vb L
theorem allU8_made (n : Nat) : allU8 (gmade [.int .u8 0] n) = true := by
  induction n with
  | zero => rfl
  | succ n ih => exact ih
/-- Bytes in a slice. -/
inductive BS (H : Hp) : Value → List UInt8 → Prop
  | none : BS H (.slice none 0 0) []
  | some {j off n c : Nat} {t : TypeId} {rw : Bool} {cs : List Value} {L : List UInt8} (hb : H.at j = some ⟨t, 1, cs, rw⟩) (hs : (cs.drop off).take n = vb L) (hl : L.length = n) (ho : off + n ≤ cs.length) (hu : allU8 cs = true) : BS H (.slice (some ⟨j, off, none⟩) n c) L
section
variable {H H' : Hp} {L : List UInt8} {p : Option Addr} {n c : Nat}
theorem BS.len (h : BS H (.slice p n c) L) : L.length = n := by
  cases h with
  | none => rfl
  | some _ _ hl _ _ => exact hl
theorem BS.is {v : Value} (h : BS H v L) : ∃ p c, v = .slice p L.length c := by
  cases h with
  | none => exact ⟨_, _, rfl⟩
  | some _ _ hl _ _ => subst hl; exact ⟨_, _, rfl⟩
theorem BS.ext {v : Value} (h : BS H v L) (k : HExt [] H H') : BS H' v L := by
  cases h with
  | none => exact .none
  | some hb hs hl ho hu => exact .some ((k.eq _ (Hp.at_lt hb) (by intro h; cases h)).trans hb) hs hl ho hu
theorem bs_push {j : Nat} {t : TypeId} {L : List UInt8} {c m : Nat} (hj : j = H.length) (hm : m = L.length) : BS (Hp.push H (Blk.mk t 1 (vb L) true)) (.slice (some ⟨j, 0, none⟩) m c) L := by
  subst hm
  exact .some (Hp.at_push_id hj) (by rw [List.drop_zero]; exact List.take_of_length_le (by simp)) rfl (by simp) (allU8_vb L)
end
section
variable {P : Program} {T : Tab} {o : Oper} {env : Env} {H : Hp} {x y : Operand} {t : TypeId} {i : TyI}
theorem grd_strBS {p : Option Addr} {n c : Nat} {L : List UInt8} {src dst e z by_ : Nat} {zr : List Value} {i2 i3 : TyI} (hT : T.ok P) (ho : o.op = .convert src dst x) (ht : T src = some i) (hd : i.d = .slice e z by_ zr) (hte : T e = some i3) (hde : i3.d = .int .u8) (ht2 : T dst = some i2) (hd2 : i2.d = .str)
    (hx : geval env x = some (.slice p n c)) (hb : BS H (.slice p n c) L) : ∃ Ts, GRd P o env H (.string ⟨L.toArray⟩) Ts := by
  cases hb with
  | none => exact ⟨_, grd_str0 hT ho ht hd hte hde ht2 hd2 hx⟩
  | some hb hs hl h1 _ => exact ⟨_, grd_str hT ho ht hd hte hde ht2 hd2 hx hb hs hl⟩
theorem vr_cap {μ : Ren} {a : Addr} {n c : Nat} {rv : Value} (h : VR μ (.slice (some a) n c) rv) (hc : c < capU) : n ≤ c := by
  cases h with
  | sl hL hn hm hcc hu ha => rw [← hcc hc]; exact hn
/-- A part of a slice of bytes. -/
theorem grd_slBS {p : Option Addr} {n c e by_ l h m2 : Nat} {zr : List Value} {lo hi : Option Operand} {L M : List UInt8} (hT : T.ok P) (ho : o.op = .slice t x lo hi none) (ht : T t = some i) (hd : i.d = .slice e 1 by_ zr) (hx : geval env x = some (.slice p n c)) (hb : BS H (.slice p n c) L)
    (hl : gbound env lo 0 l) (hh : gbound env hi n h) (h1 : l ≤ h) (h2 : h ≤ n) (em : h - l = m2) (eM : (L.drop l).take m2 = M) : ∃ p' c', (∃ Ts, GRd P o env H (.slice p' m2 c') Ts) ∧ BS H (.slice p' m2 c') M := by
  subst em eM
  cases hb with
  | none =>
    obtain rfl : h = 0 := by omega
    obtain rfl : l = 0 := by omega
    exact ⟨none, 0, ⟨[], grd_slice0 hT ho ht hd hx hl hh rfl (by intro h; cases h)⟩, .none⟩
  | some hb hs hln hof hu =>
    rename_i j off t2 rw cs
    have hcells : (cs.drop (off + l * 1)).take (h - l) = vb ((L.drop l).take (h - l)) := by
      have e1 : (cs.drop (off + l)).take (h - l) = (((cs.drop off).take n).drop l).take (h - l) := by
        rw [List.drop_take, List.take_take, Nat.min_eq_left (by omega), List.drop_drop]
      rw [Nat.mul_one, e1, hs, vb_take, vb_drop]
    have hlen2 : ((L.drop l).take (h - l)).length = h - l := by rw [List.length_take, List.length_drop]; omega
    rcases Nat.lt_or_ge c capU with hc | hc
    · exact ⟨some ⟨j, off + l * 1, none⟩, c - l, ⟨[], fun μ N a w hs' he => by
        have := vr_cap (he.eval hx) hc
        exact grd_slice hT ho ht hd hx hl hh rfl (by intro h; cases h) h1 (by omega) (Nat.le_refl _) hc μ N a w hs' he⟩, .some hb hcells hlen2 (by omega) hu⟩
    · exact ⟨some ⟨j, off + l * 1, none⟩, capU, ⟨_, grd_sliceU hT ho ht hd hx hl hh h1 h2 hc hb rfl⟩, .some hb hcells hlen2 (by omega) hu⟩
theorem grd_slBSm {p : Option Addr} {n c e by_ l h m q m2 : Nat} {zr : List Value} {lo hi : Option Operand} {mx : Operand} {L M : List UInt8} (hT : T.ok P) (ho : o.op = .slice t x lo hi (some mx)) (ht : T t = some i) (hd : i.d = .slice e 1 by_ zr) (hx : geval env x = some (.slice p n c)) (hb : BS H (.slice p n c) L)
    (hl : gbound env lo 0 l) (hh : gbound env hi n h) (hm : gbound env (some mx) q m) (hhi : hi.isSome = true) (h1 : l ≤ h) (h2 : h ≤ m) (h3 : m ≤ n) (em : h - l = m2) (eM : (L.drop l).take m2 = M) : ∃ p' c', (∃ Ts, GRd P o env H (.slice p' m2 c') Ts) ∧ BS H (.slice p' m2 c') M := by
  subst em eM
  cases hb with
  | none =>
    obtain rfl : m = 0 := by omega
    obtain rfl : h = 0 := by omega
    obtain rfl : l = 0 := by omega
    exact ⟨none, 0, ⟨[], grd_slice0 hT ho ht hd hx hl hh hm (fun _ => hhi)⟩, .none⟩
  | some hb hs hln hof hu =>
    rename_i j off t2 rw cs
    have hcells : (cs.drop (off + l * 1)).take (h - l) = vb ((L.drop l).take (h - l)) := by
      have e1 : (cs.drop (off + l)).take (h - l) = (((cs.drop off).take n).drop l).take (h - l) := by
        rw [List.drop_take, List.take_take, Nat.min_eq_left (by omega), List.drop_drop]
      rw [Nat.mul_one, e1, hs, vb_take, vb_drop]
    have hlen2 : ((L.drop l).take (h - l)).length = h - l := by rw [List.length_take, List.length_drop]; omega
    rcases Nat.lt_or_ge c capU with hc | hc
    · exact ⟨some ⟨j, off + l * 1, none⟩, m - l, ⟨[], fun μ N a w hs' he => by
        have := vr_cap (he.eval hx) hc
        exact grd_slice hT ho ht hd hx hl hh hm (fun _ => hhi) h1 h2 (by omega) hc μ N a w hs' he⟩, .some hb hcells hlen2 (by omega) hu⟩
    · exact ⟨some ⟨j, off + l * 1, none⟩, m - l, ⟨_, grd_sliceUmax hT ho ht hd hx hl hh hm hhi h1 h2 h3⟩, .some hb hcells hlen2 (by omega) hu⟩
/-- The room behind a part of a slice. -/
def capS (c l : Nat) : Nat := if capU ≤ c then capU else c - l
theorem grd_slL {j off n c e by_ l h o2 m2 : Nat} {b : Blk} {zr : List Value} {lo hi : Option Operand} (hT : T.ok P) (ho : o.op = .slice t x lo hi none) (ht : T t = some i) (hd : i.d = .slice e 1 by_ zr) (hx : geval env x = some (.slice (some ⟨j, off, none⟩) n c)) (hb : H.at j = some b) (hz : b.z = 1)
    (hl : gbound env lo 0 l) (hh : gbound env hi n h) (h1 : l ≤ h) (h2 : h ≤ n) (eo : off + l = o2) (em : h - l = m2) : GRd P o env H (.slice (some ⟨j, o2, none⟩) m2 (capS c l)) [] := by
  subst em eo
  unfold capS
  rcases Nat.lt_or_ge c capU with hc | hc
  · rw [if_neg (by omega)]
    intro μ N a w hs' he
    have := vr_cap (he.eval hx) hc
    have hg := grd_slice (H := H) hT ho ht hd hx hl hh rfl (by intro h; cases h) h1 (by omega) (Nat.le_refl _) hc
    rw [Nat.mul_one] at hg
    exact hg μ N a w hs' he
  · rw [if_pos hc]
    have hg := grd_sliceU hT ho ht hd hx hl hh h1 h2 hc hb hz
    rw [Nat.mul_one] at hg
    exact hg
theorem bs_subE {j off o2 n c m2 c2 l : Nat} {L M : List UInt8} (h : BS H (.slice (some ⟨j, off, none⟩) n c) L) (eo : o2 = off + l) (hl : l + m2 ≤ n) (eM : (L.drop l).take m2 = M) : BS H (.slice (some ⟨j, o2, none⟩) m2 c2) M := by
  subst eo eM
  cases h with
  | some hb hs hln hof hu =>
    rename_i t2 rw2 cs2
    refine .some hb ?_ (by rw [List.length_take, List.length_drop]; omega) (by omega) hu
    have e1 : (cs2.drop (off + l)).take m2 = (((cs2.drop off).take n).drop l).take m2 := by
      rw [List.drop_take, List.take_take, Nat.min_eq_left (by omega), List.drop_drop]
    rw [e1, hs, vb_take, vb_drop]
/-- The address of a byte. -/
def ptrA (p : Option Addr) (i : Nat) : Value := .pointer (p.map fun a => ⟨a.block, a.off + i, none⟩)
theorem grd_indexBS {p : Option Addr} {n c e by_ q : Nat} {zr : List Value} {k : IntKind} {m : Int} {L : List UInt8} (hT : T.ok P) (ho : o.op = .indexAddr t x y) (ht : T t = some i) (hd : i.d = .slice e 1 by_ zr) (hx : geval env x = some (.slice p n c)) (hy : geval env y = some (.int k m)) (hb : BS H (.slice p n c) L) (hm : m = (q : Int)) (h1 : q < n) : GRd P o env H (ptrA p q) [] := by
  subst hm
  cases hb with
  | none => omega
  | some hb hs hln hof hu =>
    have := grd_indexAddr (H := H) hT ho ht hd hx hy (by omega) (by omega)
    simpa [ptrA] using this
theorem grd_loadBS {p : Option Addr} {n c q : Nat} {L : List UInt8} (hT : T.ok P) (ho : o.op = .load t x) (ht : T t = some i) (ha : i.agg = false) (hx : geval env x = some (ptrA p q)) (hb : BS H (.slice p n c) L) (h1 : q < n) : ∃ Ts, GRd P o env H (.int .u8 ((L.getD q 0).toNat : Int)) Ts := by
  cases hb with
  | none => omega
  | some hb hs hln hof hu =>
    rename_i j off t2 rw cs
    refine ⟨_, grd_load1 (b := ⟨t2, 1, cs, rw⟩) hT ho ht ha hx hb ?_⟩
    have e : (vb L)[q]? = some (.int .u8 ((L.getD q 0).toNat : Int)) := by
      have hq : q < L.length := by omega
      simp [vb, List.getElem?_eq_getElem hq]
    rw [← hs, List.getElem?_take, if_pos h1, List.getElem?_drop] at e
    exact e
theorem grd_loadBSK {p : Option Addr} {n c q : Nat} {L : List UInt8} {u : UInt8} (hT : T.ok P) (ho : o.op = .load t x) (ht : T t = some i) (ha : i.agg = false) (hx : geval env x = some (ptrA p q)) (hb : BS H (.slice p n c) L) (h1 : q < n) (e : L.getD q 0 = u) : ∃ Ts, GRd P o env H (.int .u8 (u.toNat : Int)) Ts := by
  subst e
  exact grd_loadBS hT ho ht ha hx hb h1
theorem gsrc_bs {p : Option Addr} {m c e by_ : Nat} {zr' zr : List Value} {M : List UInt8} {xt : TypeId} (ht : T xt = some i) (hd : i.d = .slice e 1 by_ zr') (hx : geval env y = some (.slice p m c)) (hb : BS H (.slice p m c) M) : GSrc T env H y xt 1 zr m (vb M) := by
  cases hb with
  | none => exact .nil ht hd hx
  | some hb hs hln hof hu =>
    have := GSrc.slice (z := 1) (zr := zr) ht hd hx hb (by simpa using hof)
    simp only [Nat.mul_one] at this
    rw [hs] at this
    exact this
theorem bs_empty {j off c : Nat} {b : Blk} (hb : H.at j = some b) (hz : b.z = 1) (ho : off ≤ b.cs.length) (hu : allU8 b.cs = true) : BS H (.slice (some ⟨j, off, none⟩) 0 c) [] := by
  obtain ⟨t, z, cs, rw⟩ := b
  simp only at hz
  subst hz
  exact .some hb (by simp [vb]) rfl (by simpa using ho) hu
theorem bs_emptyE {j off c : Nat} {b : Blk} {L : List UInt8} (hb : H.at j = some b) (hz : b.z = 1) (ho : off ≤ b.cs.length) (hu : allU8 b.cs = true) (hL : L = []) : BS H (.slice (some ⟨j, off, none⟩) 0 c) L := by
  subst hL
  exact bs_empty hb hz ho hu
theorem bs_blk {j off n c : Nat} {b : Blk} {L : List UInt8} (hb : H.at j = some b) (hz : b.z = 1) (hs : (b.cs.drop off).take n = vb L) (hl : L.length = n) (ho : off + n ≤ b.cs.length) (hu : allU8 b.cs = true) : BS H (.slice (some ⟨j, off, none⟩) n c) L := by
  obtain ⟨t, z, cs, rw⟩ := b
  simp only at hz
  subst hz
  exact .some hb hs hl ho hu
section
variable {C : Ctx} {xt : TypeId}
/-- Bytes behind a slice that has no room: a new one. -/
theorem gop_fullB {p : Option Addr} {n c m e by_ id : Nat} {zr : List Value} {L M K : List UInt8} (hid : H.length = id) (hT : T.ok P) (ho : o.op = .call { callee := .builtin .append, args := #[x, y], argTypes := #[t, xt] }) (ht : T t = some i) (hd : i.d = .slice e 1 by_ zr) (hx : geval env x = some (.slice p n c)) (hb : BS H (.slice p n c) L) (hc : c < capU) (hcm : c < n + m)
    (hsrc : GSrc T env H y xt 1 zr m (vb M)) (hlM : M.length = m) (hK : L ++ M = K) (hsz : (n + m) * by_ ≤ 140737488355328) (hn : n + m ≤ 140737488355328) :
    GOp P C o env H (fun u H' => u = .slice (some ⟨id, 0, none⟩) (n + m) capU ∧ H' = H.push ⟨e, 1, vb K, true⟩) := by
  subst hid hK
  cases hb with
  | none =>
    have := gop_app_nil (C := C) hT ho ht hd (Nat.lt_succ_self 0) hx hsrc (by simp [hlM]) (by omega) (by simpa using hsz) (by omega)
    simpa using this
  | some hb hs hl hof hu =>
    have := gop_app_full (C := C) hT ho ht hd (Nat.lt_succ_self 0) hx hc hcm hb (by simpa using hof) hsrc (by simp [hlM]) hsz hn
    simp only [Nat.mul_one] at this
    rw [hs, ← vb_append] at this
    exact this
/-- Bytes behind a slice of its own. -/
theorem gop_ownB {j n m e by_ id : Nat} {b : Blk} {zr : List Value} {L M K : List UInt8} (hid : H.length = id) (hT : T.ok P) (ho : o.op = .call { callee := .builtin .append, args := #[x, y], argTypes := #[t, xt] }) (ht : T t = some i) (hd : i.d = .slice e 1 by_ zr) (hx : geval env x = some (.slice (some ⟨j, 0, none⟩) n capU)) (hb : H.at j = some b) (hcs : b.cs = vb L) (hbz : b.z = 1) (hrw : b.rw = true) (hL : L.length = n) (hn0 : 0 < n) (hm : C.may j)
    (hsrc : GSrc T env H y xt 1 zr m (vb M)) (hlM : M.length = m) (hK : L ++ M = K) (hsz : (n + m) * by_ ≤ 140737488355328) (hn : n + m ≤ 140737488355328) :
    GOp P C o env H (fun u H' => u = .slice (some ⟨id, 0, none⟩) (n + m) capU ∧ H' = (H.kill j).push ⟨e, 1, vb K, true⟩) := by
  subst hid hK
  have := gop_app_own (C := C) hT ho ht hd (Nat.lt_succ_self 0) hx (Nat.le_refl _) hb hrw hbz hm (by rw [hcs, vb_length]; omega) hn0 hsrc (by simp [hlM]) hsz hn
  rw [hcs, List.drop_zero, List.take_of_length_le (by rw [vb_length]; omega), ← vb_append] at this
  exact this
/-- Nothing behind a slice. -/
theorem gop_zeroB {p : Option Addr} {n c m e by_ : Nat} {zr : List Value} {L M : List UInt8} (hT : T.ok P) (ho : o.op = .call { callee := .builtin .append, args := #[x, y], argTypes := #[t, xt] }) (ht : T t = some i) (hd : i.d = .slice e 1 by_ zr) (hx : geval env x = some (.slice p n c)) (hb : BS H (.slice p n c) L) (hm : m = 0)
    (hsrc : GSrc T env H y xt 1 zr m (vb M)) (hlM : M.length = m) (hsz : n * by_ ≤ 140737488355328) (hn : n ≤ 140737488355328) :
    GOp P C o env H (fun u H' => u = .slice p n c ∧ H' = H) := by
  subst hm
  cases hb with
  | none => exact gop_app_00 hT ho ht hd hx hsrc
  | some hb hs hl hof hu => exact gop_app_zero hT ho ht hd (Nat.lt_succ_self 0) hx hsrc (by simp [hlM]) hsz hn
end
section
variable {N : Nat} {C : Ctx} {Q : Exit → Env → Hp → Prop} {ops : Array Oper} {tl : Bool} {Prt : List Nat} {rest : List Oper} {Kg : Env → Prop}
/-- A slice whose place is not known. -/
theorem gops_bs {b : Bool} {d m : Nat} {M : List UInt8} (hw : gwant ops env o = some b) (hb : b = true) (hd : o.dst = some d) (hN : Nat.blt d N = true) (h : ∃ p c, (∃ Ts, GRd P o env H (.slice p m c) Ts) ∧ BS H (.slice p m c) M) (k : ∀ p c, BS H (.slice p m c) M → GOps P N C ops Q rest ((d, .slice p m c) :: env) H) : GOps P N C ops Q (o :: rest) env H := by
  obtain ⟨p, c, ⟨T, h⟩, h2⟩ := h
  exact GOps.r hw hb hd hN h (k p c h2)
theorem gq_bs {b : Bool} {d m : Nat} {M : List UInt8} (hw : gwant ops env o = some b) (hb : b = true) (hd : o.dst = some d) (hN : Nat.blt d N = true) (h : ∃ p c, (∃ Ts, GRd P o env H (.slice p m c) Ts) ∧ BS H (.slice p m c) M) (hT : tl = true) (k : ∀ p c, BS H (.slice p m c) M → GQ P N C ops tl Prt Kg rest ((d, .slice p m c) :: env) H) : GQ P N C ops tl Prt Kg (o :: rest) env H := by
  obtain ⟨p, c, ⟨T, h⟩, h2⟩ := h
  exact GQ.r hw hb hd hN h (.inl hT) (k p c h2)
end
theorem gres_cellNK {env : Env} {H : Hp} {T : Tab} {s t j off : Nat} {i : TyI} {b : Blk} {cs : List Value} (h : env.get s = some (.pointer (some ⟨j, off, none⟩))) (ht : T t = some i) (ha : i.agg = true) (hb : H.at j = some b) (hn : off + i.size ≤ b.cs.length) (e : (b.cs.drop off).take i.size = cs) : GRes env H T [.cell s t] (.agg cs.toArray) := by
  subst e
  exact .cellN h ht ha hb hn
end
end Go.Proofs.Ytcbngjpihcemiaa

/- Contracts of the elder kind, of functions of bytes, lifted. Over any program. -/
namespace Go.Proofs.Ytcbngjpihcemiaa
open Go.RowKit

section
variable {P : Program} {w w' : World} {μ : Ren} {H : Hp}
/-- A slice of bytes, in the real world. -/
theorem bs_real {p : Option Addr} {n c : Nat} {L : List UInt8} (h : BS H (.slice p n c) L) (hs : SimH μ H w) {rv : Value} (hv : VR μ (.slice p n c) rv) : ∃ A c', rv = .slice A n c' ∧ L.length = n ∧ n ≤ c' ∧ c' ≤ maxLen ∧ (A = none → n = 0) ∧ Rd w w.heap.size A (vb L) := by
  cases h with
  | none =>
    cases hv
    exact ⟨none, 0, rfl, rfl, Nat.le_refl _, Nat.zero_le _, fun _ => rfl, Rd.nil_ _ _ _⟩
  | some hb hx hl ho hu =>
    rename_i j off t rw cs
    cases hv with
    | sl hL hn hm hc hu ha =>
      rename_i c' a M
      refine ⟨some a, c', rfl, hl, hn, hm, (fun h => by cases h), ?_⟩
      obtain ⟨M2, l', q1, q2, q3, q4⟩ := hs.run hb off n (by simpa using ho)
      rw [hL] at q1
      injection q1 with q1
      subst q1
      simp only [hx] at q2
      have q5 := q2.bytes
      subst q5
      intro k u hu
      have hk : 0 < c' := by
        have := (List.getElem?_eq_some_iff.1 hu).1
        rw [vb_length] at this
        omega
      obtain rfl := ha hk
      exact ⟨M.g, M.d + off, rfl, (hs.len _ _ hL).2, q4 k u hu⟩
/-- A call that only reads, lifted. -/
theorem GCalls.plain1 {f : FuncId} {p : Option Addr} {n c : Nat} {L : List UInt8} {u : Value} (hb : BS H (.slice p n c) L) (hu : ∀ μ, VR μ u u)
    (h : ∀ (A : Option Addr) (c' : Nat) (w : World), L.length = n → n ≤ c' → c' ≤ maxLen → (A = none → n = 0) → Rd w w.heap.size A (vb L) → Calls P f #[.slice A n c'] w fun e w' => e = .returned u ∧ Below w.heap.size w w') : GCalls P f [.slice p n c] [] H (fun v H' => v = u ∧ H' = H) := by
  refine (GCalls.of (R := fun v => v = u) fun μ w rargs hs hv => ?_).mono fun _ _ h => h
  obtain ⟨rv, rfl, hv2⟩ : ∃ rv, rargs = #[rv] ∧ VR μ (.slice p n c) rv := by
    cases rargs with
    | mk l =>
      simp only at hv
      cases hv with
      | cons h1 h2 =>
        cases h2
        exact ⟨_, rfl, h1⟩
  obtain ⟨A, c', rfl, q1, q2, q3, q4, q5⟩ := bs_real hb hs hv2
  exact (h A c' w q1 q2 q3 q4 q5).mono fun e w' ⟨e1, e2⟩ => ⟨u, u, e1, rfl, hu _, e2⟩
/-- A new row of its own, in the ghost heap. -/
theorem SimH.own (hs : SimH μ H w) (hb : Below w.heap.size w w') {e n : Nat} {v : Value} {L : List UInt8} (hr : w'.ownsRow w.heap.size e 1 v n (vb L)) (hn : 0 < n) :
    ∃ M : Loc, w.heap.size ≤ M.g ∧ SimH (μ.upd H.length M) (H.push ⟨e, 1, vb L, true⟩) w' ∧ VR (μ.upd H.length M) (.slice (some ⟨H.length, 0, none⟩) n capU) v := by
  obtain ⟨hl, h | ⟨g, cap, cur, rfl, hg, hc, h1, h2, h3, h4⟩⟩ := hr
  · omega
  · have he := hs.fresh ⟨g, 0, cap, 1⟩
    refine ⟨⟨g, 0, cap, 1⟩, hg, ?_, .sl (Ren.upd_eq _ _ _) h1 h2 (fun h => by unfold maxLen at h2; unfold capU at h; omega) (fun _ => by simp) (fun _ => rfl)⟩
    refine hs.add (by exact hb.size) ⟨e, 1, vb L, true⟩ ⟨g, 0, cap, 1⟩ cur e (0, 0) rfl hc (.inl rfl) (by simpa using h3) (fun j u hj => ?_) (fun u hu => List.all_eq_true.1 (all_vb L) u hu) (fun i c M hi hM => ?_)
    · refine ⟨u, ?_, VR.plain (vb_plain L u (List.mem_of_getElem? hj))⟩
      rw [← h4, List.getElem?_take] at hj
      split at hj
      · simpa using hj
      · cases hj
    · have := (hs.len i M hM).2
      exact ⟨by simp only; omega, hb.block _ this⟩
/-- Bytes in a row of its own, or none. -/
theorem SimH.ownB (hs : SimH μ H w) (hb : Below w.heap.size w w') {e n : Nat} {v : Value} {L : List UInt8} (hr : w'.ownsRow w.heap.size e 1 v n (vb L)) :
    ∃ μ' H' p c, SimH μ' H' w' ∧ Ext' μ μ' ∧ HExt [] H H' ∧ BS H' (.slice p n c) L ∧ VR μ' (.slice p n c) v ∧ (∀ i M, H.length ≤ i → μ' i = some M → w.heap.size ≤ M.g) ∧ ∀ i M, i < H.length → μ' i = some M → μ i = some M := by
  have hl : L.length = n := by have := hr.1; simpa using this
  rcases hr.2 with ⟨rfl, rfl⟩ | hr2
  · obtain rfl : L = [] := List.eq_nil_of_length_eq_zero hl
    exact ⟨μ, H, none, 0, hs.below hb, Ext'.refl μ, HExt.refl _ _, .none, .sl0, fun i M hi hM => by have := (hs.len i M hM).1; omega, fun _ _ _ h => h⟩
  · obtain ⟨g, cap, cur, rfl, hg, hc, h1, h2, h3, h4⟩ := hr2
    have he := hs.fresh ⟨g, 0, cap, 1⟩
    refine ⟨_, _, some ⟨H.length, 0, none⟩, capU, hs.add (by exact hb.size) ⟨e, 1, vb L, true⟩ ⟨g, 0, cap, 1⟩ cur e (0, 0) rfl hc (.inl rfl) (by simpa using h3) (fun j u hj => ?_) (fun u hu => List.all_eq_true.1 (all_vb L) u hu) (fun i c M hi hM => ?_), he, (HExt.refl _ _).push, bs_push rfl hl.symm, .sl (Ren.upd_eq _ _ _) h1 h2 (fun h => by unfold maxLen at h2; unfold capU at h; omega) (fun _ => by simp) (fun _ => by simp), fun i M hi hM => ?_, fun i M hi hM => ?_⟩
    · refine ⟨u, ?_, VR.plain (vb_plain L u (List.mem_of_getElem? hj))⟩
      rw [← h4, List.getElem?_take] at hj
      split at hj
      · simpa using hj
      · cases hj
    · have := (hs.len i M hM).2
      exact ⟨by simp only; omega, hb.block _ this⟩
    · by_cases e : i = H.length
      · subst e
        rw [Ren.upd_eq] at hM
        injection hM with hM
        subst hM
        exact hg
      · rw [Ren.upd_ne _ _ e] at hM
        have := (hs.len i M hM).1
        omega
    · rw [Ren.upd_ne _ _ (by omega)] at hM
      exact hM
/-- A call that makes a row, lifted. -/
theorem GCalls.own1 {f : FuncId} {p : Option Addr} {n c m e : Nat} {L M : List UInt8} (hb : BS H (.slice p n c) L) (hm : 0 < m)
    (h : ∀ (A : Option Addr) (c' : Nat) (w : World), L.length = n → n ≤ c' → c' ≤ maxLen → (A = none → n = 0) → Rd w w.heap.size A (vb L) → Calls P f #[.slice A n c'] w fun e' w' => ∃ v, e' = .returned v ∧ w'.ownsRow w.heap.size e 1 v m (vb M) ∧ Below w.heap.size w w') :
    GCalls P f [.slice p n c] [] H (fun v H' => v = .slice (some ⟨H.length, 0, none⟩) m capU ∧ H' = H.push ⟨e, 1, vb M, true⟩) := fun μ w rargs hs hv => by
  obtain ⟨rv, rfl, hv2⟩ : ∃ rv, rargs = #[rv] ∧ VR μ (.slice p n c) rv := by
    cases rargs with
    | mk l =>
      simp only at hv
      cases hv with
      | cons h1 h2 =>
        cases h2
        exact ⟨_, rfl, h1⟩
  obtain ⟨A, c', rfl, q1, q2, q3, q4, q5⟩ := bs_real hb hs hv2
  refine (h A c' w q1 q2 q3 q4 q5).mono ?_
  rintro e' w' ⟨v, rfl, k1, k2⟩
  obtain ⟨M', g1, g2, g3⟩ := hs.own k2 k1 hm
  exact ⟨_, v, _, _, rfl, ⟨rfl, rfl⟩, g3, g2, hs.fresh _, Frm.of_below k2 _, fun i L hi hL => by
    by_cases e : i = H.length
    · subst e
      rw [Ren.upd_eq] at hL
      injection hL with hL
      subst hL
      exact .inr g1
    · rw [Ren.upd_ne _ _ e] at hL
      have := (hs.len i L hL).1
      omega, by simp, fun i L hi hL => by rw [Ren.upd_ne _ _ (by omega)] at hL; exact hL⟩
end
end Go.Proofs.Ytcbngjpihcemiaa

/- The program's types, in a table: each row is checked against the program. -/
namespace Go.Proofs.Ytcbngjpihcemiaa
def tab : Tab := tabOf [
  (0, ⟨1, 0, [], .other, [], []⟩),
  (1, ⟨1, 8, [.nilFunc], .func, [], []⟩),
  (2, ⟨1, 8, [.int .i64 0], .int .i64, [], []⟩),
  (3, ⟨1, 8, [.int .i64 0], .int .i64, [], []⟩),
  (4, ⟨1, 1, [.bool false], .bool, [], []⟩),
  (5, ⟨1, 1, [.int .u8 0], .int .u8, [], []⟩),
  (6, ⟨1, 1, [.int .u8 0], .int .u8, [], []⟩),
  (7, ⟨4, 24, [.int .i64 0, .int .i64 0, .bool false, .int .u8 0], .struct [(0, 2, 1), (1, 3, 1), (2, 4, 1), (3, 6, 1)], [], []⟩),
  (8, ⟨4, 24, [.int .i64 0, .int .i64 0, .bool false, .int .u8 0], .struct [(0, 2, 1), (1, 3, 1), (2, 4, 1), (3, 6, 1)], [("Error", 176), ("RuntimeError", 177)], []⟩),
  (9, ⟨1, 16, [.string .empty], .str, [], []⟩),
  (10, ⟨1, 16, [.string .empty], .str, [("Error", 178), ("RuntimeError", 179)], []⟩),
  (11, ⟨1, 16, [.string .empty], .str, [("Error", 180), ("RuntimeError", 181)], []⟩),
  (12, ⟨1, 8, [.int .u64 0], .int .u64, [], []⟩),
  (13, ⟨2, 24, [.string .empty, .int .u64 0], .struct [(0, 9, 1), (1, 12, 1)], [], []⟩),
  (14, ⟨2, 24, [.string .empty, .int .u64 0], .struct [(0, 9, 1), (1, 12, 1)], [("Error", 182), ("RuntimeError", 183)], []⟩),
  (15, ⟨1, 8, [.pointer none], .ptr 259, [("Error", 184), ("RuntimeError", 185)], []⟩),
  (16, ⟨1, 8, [.pointer none], .ptr 262, [("Error", 186), ("RuntimeError", 187)], []⟩),
  (17, ⟨1, 8, [.pointer none], .ptr 270, [("Align", 188)], []⟩),
  (18, ⟨1, 8, [.pointer none], .struct [(0, 17, 1)], [], []⟩),
  (19, ⟨1, 8, [.pointer none], .struct [(0, 17, 1)], [("Error", 189), ("RuntimeError", 190)], []⟩),
  (20, ⟨1, 16, [.nilIface], .iface, [], []⟩),
  (21, ⟨1, 4, [.int .i32 0], .int .i32, [], []⟩),
  (22, ⟨1, 8, [.int .u64 0], .int .u64, [], []⟩),
  (23, ⟨1, 24, [.slice none 0 0], .slice 37 1 24 [.slice none 0 0], [], []⟩),
  (24, ⟨1, 8, [.nilFunc], .func, [], []⟩),
  (25, ⟨1, 8, [.nilFunc], .func, [], []⟩),
  (26, ⟨1, 8, [.int .u64 0], .int .u64, [], []⟩),
  (27, ⟨1, 8, [.pointer none], .ptr 139, [("Erase", 191), ("Get", 79), ("GetAll", 21), ("Len", 78), ("Put", 81), ("PutAll", 98)], []⟩),
  (28, ⟨1, 8, [.int .i64 0], .int .i64, [], []⟩),
  (29, ⟨1, 0, [], .other, [], []⟩),
  (30, ⟨1, 8, [.nilFunc], .func, [], []⟩),
  (31, ⟨1, 8, [.pointer none], .ptr 141, [("On", 33), ("Plan", 92), ("Up", 93), ("Write", 135)], []⟩),
  (32, ⟨1, 8, [.nilFunc], .func, [], []⟩),
  (33, ⟨1, 8, [.pointer none], .ptr 143, [("Append", 18), ("Len", 25), ("Next", 17), ("Room", 24), ("Used", 23)], []⟩),
  (34, ⟨1, 0, [], .other, [], []⟩),
  (35, ⟨1, 8, [.nilFunc], .func, [], []⟩),
  (36, ⟨1, 8, [.nilFunc], .func, [], []⟩),
  (37, ⟨1, 24, [.slice none 0 0], .slice 40 1 24 [.slice none 0 0], [], []⟩),
  (38, ⟨1, 8, [.nilFunc], .func, [], []⟩),
  (39, ⟨1, 8, [.nilFunc], .func, [], []⟩),
  (40, ⟨1, 24, [.slice none 0 0], .slice 5 1 1 [.int .u8 0], [], []⟩),
  (41, ⟨1, 8, [.nilFunc], .func, [], []⟩),
  (42, ⟨1, 0, [], .other, [], []⟩),
  (43, ⟨1, 8, [.nilFunc], .func, [], []⟩),
  (44, ⟨1, 8, [.nilFunc], .func, [], []⟩),
  (45, ⟨1, 8, [.nilFunc], .func, [], []⟩),
  (46, ⟨1, 8, [.nilFunc], .func, [], []⟩),
  (47, ⟨1, 24, [.slice none 0 0], .slice 3 1 8 [.int .i64 0], [], []⟩),
  (48, ⟨4, 64, [.int .i64 0, .int .i64 0, .slice none 0 0, .slice none 0 0], .struct [(0, 3, 1), (1, 3, 1), (2, 47, 1), (3, 47, 1)], [], []⟩),
  (49, ⟨4, 64, [.int .i64 0, .int .i64 0, .slice none 0 0, .slice none 0 0], .struct [(0, 3, 1), (1, 3, 1), (2, 47, 1), (3, 47, 1)], [], []⟩),
  (50, ⟨1, 24, [.slice none 0 0], .slice 62 4 48 [.int .u8 0, .int .i64 0, .int .i64 0, .slice none 0 0], [], []⟩),
  (51, ⟨1, 8, [.pointer none], .ptr 66, [("Get", 85), ("Len", 30), ("Mark", 39), ("Place", 29), ("Put", 83), ("Seek", 84), ("Skip", 90), ("Warns", 31), ("revenant/tape.put", 95), ("revenant/tape.used", 94)], []⟩),
  (52, ⟨1, 0, [], .other, [], []⟩),
  (53, ⟨1, 8, [.nilFunc], .func, [], []⟩),
  (54, ⟨1, 8, [.pointer none], .ptr 57, [("Get", 88), ("Put", 87), ("Seek", 89), ("Skip", 91), ("Used", 32)], []⟩),
  (55, ⟨1, 24, [.slice none 0 0], .slice 154 2 32 [.slice none 0 0, .bool false], [], []⟩),
  (56, ⟨6, 96, [.int .i64 0, .int .i64 0, .slice none 0 0, .slice none 0 0, .slice none 0 0, .int .i64 0], .struct [(0, 3, 1), (1, 3, 1), (2, 47, 1), (3, 47, 1), (4, 55, 1), (5, 3, 1)], [], []⟩),
  (57, ⟨6, 96, [.int .i64 0, .int .i64 0, .slice none 0 0, .slice none 0 0, .slice none 0 0, .int .i64 0], .struct [(0, 3, 1), (1, 3, 1), (2, 47, 1), (3, 47, 1), (4, 55, 1), (5, 3, 1)], [], []⟩),
  (58, ⟨1, 8, [.pointer none], .ptr 60, [("Write", 137)], []⟩),
  (59, ⟨3, 24, [.bool false, .int .i64 0, .int .i64 0], .struct [(0, 4, 1), (1, 3, 1), (2, 3, 1)], [], [.bool, .int .i64, .int .i64]⟩),
  (60, ⟨3, 24, [.bool false, .int .i64 0, .int .i64 0], .struct [(0, 4, 1), (1, 3, 1), (2, 3, 1)], [], [.bool, .int .i64, .int .i64]⟩),
  (61, ⟨4, 48, [.int .u8 0, .int .i64 0, .int .i64 0, .slice none 0 0], .struct [(0, 5, 1), (1, 3, 1), (2, 3, 1), (3, 40, 1)], [], []⟩),
  (62, ⟨4, 48, [.int .u8 0, .int .i64 0, .int .i64 0, .slice none 0 0], .struct [(0, 5, 1), (1, 3, 1), (2, 3, 1), (3, 40, 1)], [], []⟩),
  (63, ⟨1, 8, [.nilFunc], .func, [], []⟩),
  (64, ⟨1, 24, [.slice none 0 0], .slice 162 2 32 [.slice none 0 0, .bool false], [], []⟩),
  (65, ⟨7, 104, [.pointer none, .int .i64 0, .int .i64 0, .slice none 0 0, .slice none 0 0, .slice none 0 0, .int .i64 0], .struct [(0, 31, 1), (1, 49, 4), (5, 64, 1), (6, 3, 1)], [], []⟩),
  (66, ⟨7, 104, [.pointer none, .int .i64 0, .int .i64 0, .slice none 0 0, .slice none 0 0, .slice none 0 0, .int .i64 0], .struct [(0, 31, 1), (1, 49, 4), (5, 64, 1), (6, 3, 1)], [], []⟩),
  (67, ⟨1, 8, [.nilFunc], .func, [], []⟩),
  (68, ⟨1, 24, [.slice none 0 0], .slice 74 10 128 [.int .u8 0, .int .i64 0, .int .i64 0, .int .i64 0, .slice none 0 0, .slice none 0 0, .int .u8 0, .int .i64 0, .int .i64 0, .slice none 0 0], [], []⟩),
  (69, ⟨1, 8, [.pointer none], .ptr 81, [("Add", 36), ("Count", 41), ("Load", 37), ("Slot", 40), ("Unload", 38)], []⟩),
  (70, ⟨1, 0, [], .other, [], []⟩),
  (71, ⟨1, 8, [.nilFunc], .func, [], []⟩),
  (72, ⟨1, 24, [.slice none 0 0], .slice 54 1 8 [.pointer none], [], []⟩),
  (73, ⟨10, 128, [.int .u8 0, .int .i64 0, .int .i64 0, .int .i64 0, .slice none 0 0, .slice none 0 0, .int .u8 0, .int .i64 0, .int .i64 0, .slice none 0 0], .struct [(0, 5, 1), (1, 3, 1), (2, 49, 4), (6, 62, 4)], [], []⟩),
  (74, ⟨10, 128, [.int .u8 0, .int .i64 0, .int .i64 0, .int .i64 0, .slice none 0 0, .slice none 0 0, .int .u8 0, .int .i64 0, .int .i64 0, .slice none 0 0], .struct [(0, 5, 1), (1, 3, 1), (2, 49, 4), (6, 62, 4)], [], []⟩),
  (75, ⟨1, 0, [], .other, [], []⟩),
  (76, ⟨1, 8, [.nilFunc], .func, [], []⟩),
  (77, ⟨1, 8, [.nilFunc], .func, [], []⟩),
  (78, ⟨1, 8, [.nilFunc], .func, [], []⟩),
  (79, ⟨1, 24, [.slice none 0 0], .slice 51 1 8 [.pointer none], [], []⟩),
  (80, ⟨4, 48, [.pointer none, .pointer none, .slice none 0 0, .int .i64 0], .struct [(0, 51, 1), (1, 31, 1), (2, 79, 1), (3, 3, 1)], [], []⟩),
  (81, ⟨4, 48, [.pointer none, .pointer none, .slice none 0 0, .int .i64 0], .struct [(0, 51, 1), (1, 31, 1), (2, 79, 1), (3, 3, 1)], [], []⟩),
  (82, ⟨1, 0, [], .other, [], []⟩),
  (83, ⟨1, 8, [.nilFunc], .func, [], []⟩),
  (84, ⟨1, 8, [.nilFunc], .func, [], []⟩),
  (85, ⟨1, 8, [.pointer none], .ptr 164, [("Commit", 46), ("Gen", 45), ("Room", 44), ("revenant/root.area", 99), ("revenant/root.find", 96), ("revenant/root.read", 141), ("revenant/root.sectors", 97)], []⟩),
  (86, ⟨1, 0, [], .other, [], []⟩),
  (87, ⟨1, 8, [.nilFunc], .func, [], []⟩),
  (88, ⟨1, 8, [.nilFunc], .func, [], []⟩),
  (89, ⟨1, 8, [.nilFunc], .func, [], []⟩),
  (90, ⟨1, 8, [.nilFunc], .func, [], []⟩),
  (91, ⟨5, 40, [.int .i64 0, .int .i64 0, .int .i64 0, .int .i64 0, .int .i64 0], .struct [(0, 3, 1), (1, 3, 1), (2, 3, 1), (3, 3, 1), (4, 3, 1)], [], [.int .i64, .int .i64, .int .i64, .int .i64, .int .i64]⟩),
  (92, ⟨5, 40, [.int .i64 0, .int .i64 0, .int .i64 0, .int .i64 0, .int .i64 0], .struct [(0, 3, 1), (1, 3, 1), (2, 3, 1), (3, 3, 1), (4, 3, 1)], [("revenant/segment.numbers", 192)], [.int .i64, .int .i64, .int .i64, .int .i64, .int .i64]⟩),
  (93, ⟨5, 40, [.int .i64 0, .int .i64 0, .int .i64 0, .int .i64 0, .bool false], .struct [(0, 3, 1), (1, 3, 1), (2, 3, 1), (3, 3, 1), (4, 4, 1)], [], [.int .i64, .int .i64, .int .i64, .int .i64, .bool]⟩),
  (94, ⟨5, 40, [.int .i64 0, .int .i64 0, .int .i64 0, .int .i64 0, .bool false], .struct [(0, 3, 1), (1, 3, 1), (2, 3, 1), (3, 3, 1), (4, 4, 1)], [("revenant/segment.numbers", 193)], [.int .i64, .int .i64, .int .i64, .int .i64, .bool]⟩),
  (95, ⟨1, 8, [.nilFunc], .func, [], []⟩),
  (96, ⟨1, 8, [.nilFunc], .func, [], []⟩),
  (97, ⟨1, 24, [.slice none 0 0], .slice 5 1 1 [.int .u8 0], [("revenant/segment.numbers", 194)], []⟩),
  (98, ⟨1, 8, [.nilFunc], .func, [], []⟩),
  (99, ⟨1, 24, [.slice none 0 0], .slice 121 2 16 [.int .i64 0, .int .i64 0], [], []⟩),
  (100, ⟨1, 8, [.nilFunc], .func, [], []⟩),
  (101, ⟨1, 24, [.slice none 0 0], .slice 4 1 1 [.bool false], [], []⟩),
  (102, ⟨1, 8, [.nilFunc], .func, [], []⟩),
  (103, ⟨1, 24, [.slice none 0 0], .slice 121 2 16 [.int .i64 0, .int .i64 0], [("All", 56), ("And", 60), ("Bytes", 65), ("Has", 55), ("Len", 58), ("Minus", 61), ("Or", 59)], []⟩),
  (104, ⟨1, 8, [.nilFunc], .func, [], []⟩),
  (105, ⟨1, 8, [.nilFunc], .func, [], []⟩),
  (106, ⟨1, 8, [.nilFunc], .func, [], []⟩),
  (107, ⟨1, 8, [.nilFunc], .func, [], []⟩),
  (108, ⟨1, 8, [.nilFunc], .func, [], []⟩),
  (109, ⟨1, 8, [.nilFunc], .func, [], []⟩),
  (110, ⟨1, 0, [], .other, [], []⟩),
  (111, ⟨1, 8, [.nilFunc], .func, [], []⟩),
  (112, ⟨1, 8, [.pointer none], .ptr 199, [("End", 67), ("Failed", 124), ("Number", 123), ("revenant/varint.fail", 153)], []⟩),
  (113, ⟨1, 8, [.nilFunc], .func, [], []⟩),
  (114, ⟨1, 24, [.slice none 0 0], .slice 122 2 16 [.int .i64 0, .int .i64 0], [], []⟩),
  (115, ⟨1, 0, [], .other, [], []⟩),
  (116, ⟨1, 8, [.nilFunc], .func, [], []⟩),
  (117, ⟨1, 8, [.pointer none], .ptr 119, [("Number", 126)], []⟩),
  (118, ⟨2, 32, [.slice none 0 0, .int .i64 0], .struct [(0, 40, 1), (1, 3, 1)], [], []⟩),
  (119, ⟨2, 32, [.slice none 0 0, .int .i64 0], .struct [(0, 40, 1), (1, 3, 1)], [], []⟩),
  (120, ⟨2, 16, [.int .i64 0, .int .i64 0], .struct [(0, 3, 1), (1, 3, 1)], [], [.int .i64, .int .i64]⟩),
  (121, ⟨2, 16, [.int .i64 0, .int .i64 0], .struct [(0, 3, 1), (1, 3, 1)], [("Len", 121)], [.int .i64, .int .i64]⟩),
  (122, ⟨2, 16, [.int .i64 0, .int .i64 0], .struct [(0, 3, 1), (1, 3, 1)], [], [.int .i64, .int .i64]⟩),
  (123, ⟨1, 8, [.nilFunc], .func, [], []⟩),
  (124, ⟨1, 8, [.nilFunc], .func, [], []⟩),
  (125, ⟨1, 8, [.nilFunc], .func, [], []⟩),
  (126, ⟨1, 8, [.nilFunc], .func, [], []⟩),
  (127, ⟨1, 8, [.pointer none], .ptr 206, [("Blocks", 73), ("Bytes", 77), ("Clear", 72), ("Clone", 76), ("Diff", 70), ("Get", 69), ("Put", 71)], []⟩),
  (128, ⟨1, 0, [], .other, [], []⟩),
  (129, ⟨1, 8, [.nilFunc], .func, [], []⟩),
  (130, ⟨1, 0, [], .other, [], []⟩),
  (131, ⟨1, 8, [.nilFunc], .func, [], []⟩),
  (132, ⟨1, 8, [.nilFunc], .func, [], []⟩),
  (133, ⟨1, 8, [.nilFunc], .func, [], []⟩),
  (134, ⟨1, 8, [.nilFunc], .func, [], []⟩),
  (135, ⟨1, 8, [.nilFunc], .func, [], []⟩),
  (136, ⟨1, 8, [.nilFunc], .func, [], []⟩),
  (137, ⟨1, 24, [.slice none 0 0], .slice 149 64 64 (List.replicate 64 (.int .u8 0)), [], []⟩),
  (138, ⟨2, 32, [.pointer none, .slice none 0 0], .struct [(0, 31, 1), (1, 137, 1)], [], []⟩),
  (139, ⟨2, 32, [.pointer none, .slice none 0 0], .struct [(0, 31, 1), (1, 137, 1)], [], []⟩),
  (140, ⟨5, 40, [.bool false, .int .i64 0, .int .i64 0, .bool false, .int .i64 0], .struct [(0, 4, 1), (1, 3, 1), (2, 3, 1), (3, 4, 1), (4, 3, 1)], [], [.bool, .int .i64, .int .i64, .bool, .int .i64]⟩),
  (141, ⟨5, 40, [.bool false, .int .i64 0, .int .i64 0, .bool false, .int .i64 0], .struct [(0, 4, 1), (1, 3, 1), (2, 3, 1), (3, 4, 1), (4, 3, 1)], [], [.bool, .int .i64, .int .i64, .bool, .int .i64]⟩),
  (142, ⟨3, 24, [.pointer none, .int .u64 0, .int .i64 0], .struct [(0, 27, 1), (1, 22, 1), (2, 3, 1)], [], []⟩),
  (143, ⟨3, 24, [.pointer none, .int .u64 0, .int .i64 0], .struct [(0, 27, 1), (1, 22, 1), (2, 3, 1)], [], []⟩),
  (144, ⟨1, 8, [.nilFunc], .func, [], []⟩),
  (145, ⟨1, 0, [], .other, [], []⟩),
  (146, ⟨1, 8, [.nilFunc], .func, [], []⟩),
  (147, ⟨1, 8, [.nilFunc], .func, [], []⟩),
  (148, ⟨64, 64, (List.replicate 64 (.int .u8 0)), .arr 64 5 1, [], [.int .u8, .int .u8, .int .u8, .int .u8, .int .u8, .int .u8, .int .u8, .int .u8, .int .u8, .int .u8, .int .u8, .int .u8, .int .u8, .int .u8, .int .u8, .int .u8, .int .u8, .int .u8, .int .u8, .int .u8, .int .u8, .int .u8, .int .u8, .int .u8, .int .u8, .int .u8, .int .u8, .int .u8, .int .u8, .int .u8, .int .u8, .int .u8, .int .u8, .int .u8, .int .u8, .int .u8, .int .u8, .int .u8, .int .u8, .int .u8, .int .u8, .int .u8, .int .u8, .int .u8, .int .u8, .int .u8, .int .u8, .int .u8, .int .u8, .int .u8, .int .u8, .int .u8, .int .u8, .int .u8, .int .u8, .int .u8, .int .u8, .int .u8, .int .u8, .int .u8, .int .u8, .int .u8, .int .u8, .int .u8]⟩),
  (149, ⟨64, 64, (List.replicate 64 (.int .u8 0)), .arr 64 5 1, [], [.int .u8, .int .u8, .int .u8, .int .u8, .int .u8, .int .u8, .int .u8, .int .u8, .int .u8, .int .u8, .int .u8, .int .u8, .int .u8, .int .u8, .int .u8, .int .u8, .int .u8, .int .u8, .int .u8, .int .u8, .int .u8, .int .u8, .int .u8, .int .u8, .int .u8, .int .u8, .int .u8, .int .u8, .int .u8, .int .u8, .int .u8, .int .u8, .int .u8, .int .u8, .int .u8, .int .u8, .int .u8, .int .u8, .int .u8, .int .u8, .int .u8, .int .u8, .int .u8, .int .u8, .int .u8, .int .u8, .int .u8, .int .u8, .int .u8, .int .u8, .int .u8, .int .u8, .int .u8, .int .u8, .int .u8, .int .u8, .int .u8, .int .u8, .int .u8, .int .u8, .int .u8, .int .u8, .int .u8, .int .u8]⟩),
  (150, ⟨1, 8, [.nilFunc], .func, [], []⟩),
  (151, ⟨1, 8, [.nilFunc], .func, [], []⟩),
  (152, ⟨1, 8, [.nilFunc], .func, [], []⟩),
  (153, ⟨2, 32, [.slice none 0 0, .bool false], .struct [(0, 40, 1), (1, 4, 1)], [], []⟩),
  (154, ⟨2, 32, [.slice none 0 0, .bool false], .struct [(0, 40, 1), (1, 4, 1)], [], []⟩),
  (155, ⟨1, 0, [], .other, [], []⟩),
  (156, ⟨1, 8, [.nilFunc], .func, [], []⟩),
  (157, ⟨1, 8, [.nilFunc], .func, [], []⟩),
  (158, ⟨1, 8, [.nilFunc], .func, [], []⟩),
  (159, ⟨1, 8, [.nilFunc], .func, [], []⟩),
  (160, ⟨1, 8, [.nilFunc], .func, [], []⟩),
  (161, ⟨2, 32, [.slice none 0 0, .bool false], .struct [(0, 40, 1), (1, 4, 1)], [], []⟩),
  (162, ⟨2, 32, [.slice none 0 0, .bool false], .struct [(0, 40, 1), (1, 4, 1)], [], []⟩),
  (163, ⟨2, 16, [.pointer none, .int .u64 0], .struct [(0, 27, 1), (1, 22, 1)], [], []⟩),
  (164, ⟨2, 16, [.pointer none, .int .u64 0], .struct [(0, 27, 1), (1, 22, 1)], [], []⟩),
  (165, ⟨1, 4, [.int .u32 0], .int .u32, [], []⟩),
  (166, ⟨3, 24, [.int .u64 0, .int .i64 0, .int .u32 0], .struct [(0, 22, 1), (1, 3, 1), (2, 165, 1)], [], [.int .u64, .int .i64, .int .u32]⟩),
  (167, ⟨3, 24, [.int .u64 0, .int .i64 0, .int .u32 0], .struct [(0, 22, 1), (1, 3, 1), (2, 165, 1)], [("revenant/root.bytes", 101)], [.int .u64, .int .i64, .int .u32]⟩),
  (168, ⟨1, 0, [], .other, [], []⟩),
  (169, ⟨1, 8, [.nilFunc], .func, [], []⟩),
  (170, ⟨1, 8, [.nilFunc], .func, [], []⟩),
  (171, ⟨1, 8, [.nilFunc], .func, [], []⟩),
  (172, ⟨1, 8, [.nilFunc], .func, [], []⟩),
  (173, ⟨1, 8, [.nilFunc], .func, [], []⟩),
  (174, ⟨1, 16, [.nilIface], .iface, [], []⟩),
  (175, ⟨1, 16, [.nilIface], .iface, [], []⟩),
  (176, ⟨5, 40, [.int .i64 0, .int .i64 0, .int .i64 0, .int .i64 0, .int .i64 0], .arr 5 3 1, [], [.int .i64, .int .i64, .int .i64, .int .i64, .int .i64]⟩),
  (177, ⟨1, 0, [], .other, [], []⟩),
  (178, ⟨1, 8, [.nilFunc], .func, [], []⟩),
  (179, ⟨1, 8, [.nilFunc], .func, [], []⟩),
  (180, ⟨1, 8, [.nilFunc], .func, [], []⟩),
  (181, ⟨7, 64, [.int .u8 0, .int .i64 0, .int .i64 0, .int .i64 0, .int .i64 0, .int .i64 0, .string .empty], .struct [(0, 5, 1), (1, 176, 5), (6, 9, 1)], [], [.int .u8, .int .i64, .int .i64, .int .i64, .int .i64, .int .i64, .str]⟩),
  (182, ⟨7, 64, [.int .u8 0, .int .i64 0, .int .i64 0, .int .i64 0, .int .i64 0, .int .i64 0, .string .empty], .struct [(0, 5, 1), (1, 176, 5), (6, 9, 1)], [("Bytes", 111)], [.int .u8, .int .i64, .int .i64, .int .i64, .int .i64, .int .i64, .str]⟩),
  (183, ⟨1, 8, [.nilFunc], .func, [], []⟩),
  (184, ⟨1, 8, [.nilFunc], .func, [], []⟩),
  (185, ⟨1, 8, [.nilFunc], .func, [], []⟩),
  (186, ⟨1, 0, [], .other, [], []⟩),
  (187, ⟨1, 8, [.nilFunc], .func, [], []⟩),
  (188, ⟨1, 8, [.nilFunc], .func, [], []⟩),
  (189, ⟨1, 8, [.nilFunc], .func, [], []⟩),
  (190, ⟨1, 8, [.nilFunc], .func, [], []⟩),
  (191, ⟨1, 8, [.nilFunc], .func, [], []⟩),
  (192, ⟨1, 8, [.nilFunc], .func, [], []⟩),
  (193, ⟨1, 8, [.nilFunc], .func, [], []⟩),
  (194, ⟨1, 8, [.nilFunc], .func, [], []⟩),
  (195, ⟨1, 8, [.nilFunc], .func, [], []⟩),
  (196, ⟨1, 24, [.slice none 0 0], .slice 103 1 24 [.slice none 0 0], [], []⟩),
  (197, ⟨1, 8, [.nilFunc], .func, [], []⟩),
  (198, ⟨2, 32, [.slice none 0 0, .int .i64 0], .struct [(0, 40, 1), (1, 28, 1)], [], []⟩),
  (199, ⟨2, 32, [.slice none 0 0, .int .i64 0], .struct [(0, 40, 1), (1, 28, 1)], [], []⟩),
  (200, ⟨1, 8, [.nilFunc], .func, [], []⟩),
  (201, ⟨32, 32, (List.replicate 32 (.int .u8 0)), .arr 32 5 1, [], [.int .u8, .int .u8, .int .u8, .int .u8, .int .u8, .int .u8, .int .u8, .int .u8, .int .u8, .int .u8, .int .u8, .int .u8, .int .u8, .int .u8, .int .u8, .int .u8, .int .u8, .int .u8, .int .u8, .int .u8, .int .u8, .int .u8, .int .u8, .int .u8, .int .u8, .int .u8, .int .u8, .int .u8, .int .u8, .int .u8, .int .u8, .int .u8]⟩),
  (202, ⟨32, 32, (List.replicate 32 (.int .u8 0)), .arr 32 5 1, [], [.int .u8, .int .u8, .int .u8, .int .u8, .int .u8, .int .u8, .int .u8, .int .u8, .int .u8, .int .u8, .int .u8, .int .u8, .int .u8, .int .u8, .int .u8, .int .u8, .int .u8, .int .u8, .int .u8, .int .u8, .int .u8, .int .u8, .int .u8, .int .u8, .int .u8, .int .u8, .int .u8, .int .u8, .int .u8, .int .u8, .int .u8, .int .u8]⟩),
  (203, ⟨1, 0, [], .other, [], []⟩),
  (204, ⟨1, 8, [.map none], .other, [], []⟩),
  (205, ⟨1, 8, [.map none], .struct [(0, 204, 1)], [], []⟩),
  (206, ⟨1, 8, [.map none], .struct [(0, 204, 1)], [], []⟩),
  (207, ⟨1, 8, [.nilFunc], .func, [], []⟩),
  (208, ⟨1, 8, [.nilFunc], .func, [], []⟩),
  (209, ⟨1, 8, [.nilFunc], .func, [], []⟩),
  (210, ⟨1, 8, [.nilFunc], .func, [], []⟩),
  (211, ⟨1, 8, [.nilFunc], .func, [], []⟩),
  (212, ⟨1, 8, [.nilFunc], .func, [], []⟩),
  (213, ⟨1, 8, [.nilFunc], .func, [], []⟩),
  (214, ⟨1, 8, [.nilFunc], .func, [], []⟩),
  (215, ⟨1, 8, [.nilFunc], .func, [], []⟩),
  (216, ⟨1, 8, [.nilFunc], .func, [], []⟩),
  (217, ⟨1, 8, [.nilFunc], .func, [], []⟩),
  (218, ⟨1, 8, [.nilFunc], .func, [], []⟩),
  (219, ⟨1, 0, [], .other, [], []⟩),
  (220, ⟨1, 8, [.nilFunc], .func, [], []⟩),
  (221, ⟨16, 64, (List.replicate 16 (.int .u32 0)), .arr 16 165 1, [], [.int .u32, .int .u32, .int .u32, .int .u32, .int .u32, .int .u32, .int .u32, .int .u32, .int .u32, .int .u32, .int .u32, .int .u32, .int .u32, .int .u32, .int .u32, .int .u32]⟩),
  (222, ⟨1, 8, [.nilFunc], .func, [], []⟩),
  (223, ⟨1, 8, [.nilFunc], .func, [], []⟩),
  (224, ⟨1, 24, [.slice none 0 0], .slice 22 1 8 [.int .u64 0], [], []⟩),
  (225, ⟨1, 8, [.nilFunc], .func, [], []⟩),
  (226, ⟨1, 8, [.nilFunc], .func, [], []⟩),
  (227, ⟨1, 8, [.nilFunc], .func, [], []⟩),
  (228, ⟨1, 8, [.nilFunc], .func, [], []⟩),
  (229, ⟨1, 8, [.nilFunc], .func, [], []⟩),
  (230, ⟨1, 8, [.nilFunc], .func, [], []⟩),
  (231, ⟨1, 0, [], .other, [], []⟩),
  (232, ⟨1, 8, [.nilFunc], .func, [], []⟩),
  (233, ⟨1, 8, [.nilFunc], .func, [], []⟩),
  (234, ⟨1, 0, [], .other, [], []⟩),
  (235, ⟨1, 8, [.nilFunc], .func, [], []⟩),
  (236, ⟨1, 8, [.nilFunc], .func, [], []⟩),
  (237, ⟨1, 8, [.nilFunc], .func, [], []⟩),
  (238, ⟨8, 8, [.int .u8 0, .int .u8 0, .int .u8 0, .int .u8 0, .int .u8 0, .int .u8 0, .int .u8 0, .int .u8 0], .arr 8 5 1, [], [.int .u8, .int .u8, .int .u8, .int .u8, .int .u8, .int .u8, .int .u8, .int .u8]⟩),
  (239, ⟨1, 8, [.nilFunc], .func, [], []⟩),
  (240, ⟨1, 8, [.nilFunc], .func, [], []⟩),
  (241, ⟨1, 8, [.nilFunc], .func, [], []⟩),
  (242, ⟨1, 8, [.int .i64 0], .int .i64, [], []⟩),
  (243, ⟨1, 0, [], .other, [], []⟩),
  (244, ⟨1, 8, [.nilFunc], .func, [], []⟩),
  (245, ⟨1, 8, [.nilFunc], .func, [], []⟩),
  (246, ⟨1, 8, [.nilFunc], .func, [], []⟩),
  (247, ⟨1, 8, [.nilFunc], .func, [], []⟩),
  (248, ⟨1, 8, [.nilFunc], .func, [], []⟩),
  (249, ⟨1, 8, [.int .u64 0], .int .u64, [], []⟩),
  (250, ⟨1, 8, [.nilFunc], .func, [], []⟩),
  (251, ⟨1, 8, [.nilFunc], .func, [], []⟩),
  (252, ⟨1, 8, [.pointer none], .ptr 3, [], []⟩),
  (253, ⟨1, 8, [.nilFunc], .func, [], []⟩),
  (254, ⟨1, 8, [.pointer none], .ptr 249, [("Next", 172)], []⟩),
  (255, ⟨1, 0, [], .other, [], []⟩),
  (256, ⟨1, 8, [.nilFunc], .func, [], []⟩),
  (257, ⟨1, 8, [.nilFunc], .func, [], []⟩),
  (258, ⟨4, 40, [.pointer none, .pointer none, .pointer none, .string .empty], .struct [(0, 17, 1), (1, 17, 1), (2, 17, 1), (3, 9, 1)], [], []⟩),
  (259, ⟨4, 40, [.pointer none, .pointer none, .pointer none, .string .empty], .struct [(0, 17, 1), (1, 17, 1), (2, 17, 1), (3, 9, 1)], [], []⟩),
  (260, ⟨0, 0, [], .arr 0 16 1, [], []⟩),
  (263, ⟨1, 1, [.int .u8 0], .int .u8, [], []⟩),
  (264, ⟨1, 1, [.int .u8 0], .int .u8, [("String", 195)], []⟩),
  (265, ⟨1, 8, [.nilFunc], .func, [], []⟩),
  (266, ⟨1, 8, [.pointer none], .ptr 5, [], []⟩),
  (267, ⟨1, 4, [.int .i32 0], .int .i32, [], []⟩),
  (268, ⟨1, 4, [.int .i32 0], .int .i32, [], []⟩),
  (269, ⟨11, 48, [.int .u64 0, .int .u64 0, .int .u32 0, .int .u8 0, .int .u8 0, .int .u8 0, .int .u8 0, .nilFunc, .pointer none, .int .i32 0, .int .i32 0], .struct [(0, 12, 1), (1, 12, 1), (2, 165, 1), (3, 263, 1), (4, 5, 1), (5, 5, 1), (6, 264, 1), (7, 265, 1), (8, 266, 1), (9, 267, 1), (10, 268, 1)], [], []⟩),
  (270, ⟨11, 48, [.int .u64 0, .int .u64 0, .int .u32 0, .int .u8 0, .int .u8 0, .int .u8 0, .int .u8 0, .nilFunc, .pointer none, .int .i32 0, .int .i32 0], .struct [(0, 12, 1), (1, 12, 1), (2, 165, 1), (3, 263, 1), (4, 5, 1), (5, 5, 1), (6, 264, 1), (7, 265, 1), (8, 266, 1), (9, 267, 1), (10, 268, 1)], [], []⟩)
  ]
theorem tab_is : tab.ok Try.prog := tab_ok (by kernel_rfl)
end Go.Proofs.Ytcbngjpihcemiaa

/- slices.Clip and slices.Clone of bytes, walked. -/
namespace Go.Proofs.Ytcbngjpihcemiaa
open Go.RowKit

theorem elm_u8 : Elm Try.prog 40 5 (.int .u8 0) 1 1 := Elm.mk Try.underlying40 (by kernel_rfl) rfl (by omega)

theorem clip_any (A : Option Addr) (n c : Nat) (w : World) (hn : n ≤ c) (_hm : c ≤ maxLen) :
    Calls Try.prog 144 #[.slice A n c] w fun e w' => e = .returned (.slice A n n) ∧ w = w' := by
  unfold maxLen at _hm
  go_enter Try.func144, Try.ntmps144
  go_wp2
  go_ret
  exact ⟨rfl, rfl⟩

theorem clone_any (A : Option Addr) (n c B : Nat) (l : List UInt8) (w : World) (hl : l.length = n) (hn : n ≤ 140737488355328) (hA : A = none → n = 0) (hr : Rd w B A (vb l)) :
    Calls Try.prog 125 #[.slice A n c] w fun e w' => ∃ v, e = .returned v ∧ w'.ownsRow w.heap.size 5 1 v n (vb l) ∧ Below w.heap.size w w' := by
  cases A with
  | none =>
    obtain rfl := hA rfl
    obtain rfl : l = [] := List.eq_nil_of_length_eq_zero hl
    have heq := fun w : World => Lib.run_eql_slice_nil (P := Try.prog) w 40 5 none 0 c 0 0 Try.underlying40
    go_enter Try.func125, Try.ntmps125
    go_wp2
    go_ret
    exact ⟨_, rfl, World.ownsRow_nil _ _ _ _, Below.refl _ _⟩
  | some a =>
    have heq := fun w : World => Lib.run_eql_slice_nil (P := Try.prog) w 40 5 (some a) n c 0 0 Try.underlying40
    have Hl := Lib.hid hl
    have Hn := Lib.hid hn
    clear hl hA hn
    have hown : (w.alloc (.cells #[] 5)).ownsRow w.heap.size 5 1 (.slice (some ⟨w.heap.size, 0, none⟩) 0 0) 0 [] := World.ownsRow_made w #[] 0 (Nat.le_refl _) (by simp [maxLen]) rfl
    have hrd : Rd (w.alloc (.cells #[] 5)) (min B w.heap.size) (some a) (vb l) := by
      intro j u hu
      obtain ⟨b, off, h1, h2, h3⟩ := hr j u hu
      have hlt := World.block_lt_of_cell? w _ h3
      exact ⟨b, off, h1, by simp at hlt; omega, (World.cell?_of_block (Below.heap_alloc w _ b hlt)).trans h3⟩
    go_enter Try.func125, Try.ntmps125
    go_wp2_with (at_builtin; refine wpList_append_app _ rfl (.tmp 5) (.tmp 6) _ rfl w.heap.size _ _ 1 1 elm_u8 _ 0 [] rfl (.inl hown) _ _ n c (vb l) rfl (by rw [vb_length, Hl.out]; omega) hrd (vb_one _) (by have := Hn.out; simp only [maxLen]; omega) (by have := Hn.out; omega) (by simp) ?_; intro v1 w1 hA1)
    go_ret
    refine ⟨v1, rfl, ?_, ?_⟩
    · have := hA1.own (.inr hown)
      simpa using this
    · exact (below_al (Below.refl _ _) _).trans hA1.below

end Go.Proofs.Ytcbngjpihcemiaa

/- Plain facts on numbers as bytes, seven bits at a time: what a number's bytes are, and what is read. No program in sight. -/
namespace Go.Proofs.Ytcbngjpihcemiaa

/-- A number's bytes. -/
def enc (n : Nat) : List UInt8 := if n < 128 then [UInt8.ofNat n] else UInt8.ofNat (n % 128 + 128) :: enc (n / 128)
termination_by n
decreasing_by omega
theorem enc_lt {n : Nat} (h : n < 128) : enc n = [UInt8.ofNat n] := by rw [enc, if_pos h]
theorem enc_ge {n : Nat} (h : ¬ n < 128) : enc n = UInt8.ofNat (n % 128 + 128) :: enc (n / 128) := by rw [enc, if_neg h]
def encs (l : List Nat) : List UInt8 := l.flatMap enc
theorem encs_nil : encs [] = [] := rfl
theorem encs_cons (n : Nat) (l : List Nat) : encs (n :: l) = enc n ++ encs l := rfl
theorem encs_append (a b : List Nat) : encs (a ++ b) = encs a ++ encs b := by simp [encs]
theorem enc_length (d : Nat) : ∀ n, n < 2 ^ (7 * (d + 1)) → (enc n).length ≤ d + 1 := by
  induction d with
  | zero => intro n h; rw [enc_lt (by simpa using h)]; simp
  | succ d ih =>
    intro n h
    by_cases hn : n < 128
    · rw [enc_lt hn]; simp
    · rw [enc_ge hn]
      have h2 : (2 : Nat) ^ (7 * (d + 1 + 1)) = 128 * 2 ^ (7 * (d + 1)) := by rw [show 7 * (d + 1 + 1) = 7 + 7 * (d + 1) from by omega, Nat.pow_add]
      have := ih (n / 128) (by omega)
      simp only [List.length_cons]
      omega
theorem enc_le (n : Nat) (h : n < 18446744073709551616) : (enc n).length ≤ 10 := enc_length 9 n (by omega)
theorem enc_pos (n : Nat) : 0 < (enc n).length := by
  rw [enc]
  split <;> simp

/-- What is read, of the bytes from place i on, if those ahead come to a: the number, how many bytes it has, the error. -/
def nextL (i a : Nat) : List UInt8 → Nat × Nat × Nat
  | [] => (0, 0, 2)
  | c :: t => if (i = 9 ∧ 1 < c.toNat) ∨ (0 < i ∧ c.toNat = 0) then (0, 0, 3) else if c.toNat < 128 then (a + c.toNat % 128 * 128 ^ i, i + 1, 0) else nextL (i + 1) (a + c.toNat % 128 * 128 ^ i) t
def next (l : List UInt8) : Nat × Nat × Nat := nextL 0 0 l
theorem nextL_nil (i a : Nat) : nextL i a [] = (0, 0, 2) := rfl
theorem nextL_cons (i a : Nat) (c : UInt8) (t : List UInt8) : nextL i a (c :: t) = if (i = 9 ∧ 1 < c.toNat) ∨ (0 < i ∧ c.toNat = 0) then (0, 0, 3) else if c.toNat < 128 then (a + c.toNat % 128 * 128 ^ i, i + 1, 0) else nextL (i + 1) (a + c.toNat % 128 * 128 ^ i) t := rfl

theorem encs_step (b : List UInt8) (l : List Nat) (k S : Nat) (hk : k < l.length) (hs : (b ++ encs l).length ≤ S) :
    ∃ N, l[k]? = some N ∧ N ∈ l ∧ encs (l.take (k + 1)) = encs (l.take k) ++ enc N ∧ (b ++ encs (l.take (k + 1))).length ≤ S := by
  refine ⟨l[k], List.getElem?_eq_getElem hk, List.getElem_mem _, by rw [List.take_succ_eq_append_getElem hk, encs_append]; simp [encs], ?_⟩
  have h : encs l = encs (l.take (k + 1)) ++ encs (l.drop (k + 1)) := by rw [← encs_append, List.take_append_drop]
  rw [h] at hs
  simp only [List.length_append] at hs ⊢
  omega
theorem enc_room {acc : List UInt8} {N : Nat} {t : List UInt8} (h : acc ++ enc N = t) : acc.length + 1 ≤ t.length := by
  have h2 := enc_pos N
  rw [← h, List.length_append]
  omega

theorem nat_or128 (x : Nat) (hx : x < 256) : x ||| 128 = x % 128 + 128 := by
  have h : ∀ y : Fin 256, y.val ||| 128 = y.val % 128 + 128 := by decide +kernel
  exact h ⟨x, hx⟩
theorem bits_more (N : Nat) : bits .or .u8 ((N : Int) % 256) 128 = (N : Int) % 128 + 128 := by
  have h1 : ((N : Int) % 256) = ((N % 256 : Nat) : Int) := by omega
  have h2 : (128 : Int) = ((128 : Nat) : Int) := rfl
  rw [h1, h2, u8_or_nat _ _ (by omega) (by omega), nat_or128 _ (by omega)]
  omega
theorem more_byte (N : Nat) : ((N : Int) % 128 + 128).toNat = N % 128 + 128 := by omega

theorem p128_8 : (128 : Nat) ^ 8 = 72057594037927936 := by decide +kernel
theorem p128_9 : (128 : Nat) ^ 9 = 9223372036854775808 := by decide +kernel
theorem pow128 (k : Nat) : (2 : Nat) ^ (7 * k) = 128 ^ k := by rw [Nat.pow_mul]
theorem room128 {N x k : Nat} (hN : N < 128 ^ k) : N + x % 128 * 128 ^ k < 128 ^ (k + 1) := by
  have h : x % 128 * 128 ^ k ≤ 127 * 128 ^ k := Nat.mul_le_mul_right _ (by omega)
  rw [Nat.pow_succ]
  omega
theorem top128 {x k : Nat} (hk : k ≤ 9) (h9 : k = 9 → x ≤ 1) : x % 128 * 128 ^ k < 18446744073709551616 := by
  rcases Nat.lt_or_ge k 9 with h | h
  · have h1 : (128 : Nat) ^ k ≤ 128 ^ 8 := Nat.pow_le_pow_right (by omega) (by omega)
    have h2 : x % 128 * 128 ^ k ≤ 127 * 128 ^ 8 := Nat.mul_le_mul (by omega) h1
    rw [p128_8] at h2
    omega
  · have e : k = 9 := by omega
    subst e
    have := h9 rfl
    have h2 : x % 128 * 128 ^ 9 ≤ 1 * 128 ^ 9 := Nat.mul_le_mul_right _ (by omega)
    rw [p128_9] at h2 ⊢
    omega
theorem low128 {N k : Nat} (hk : k ≤ 9) (hN : N < 128 ^ k) : N < 18446744073709551616 := by
  have h1 : (128 : Nat) ^ k ≤ 128 ^ 9 := Nat.pow_le_pow_right (by omega) (by omega)
  rw [p128_9] at h1
  omega
theorem wrap_u64_of {a : Nat} (h : a < 18446744073709551616) : IntKind.u64.wrap (a : Int) = (a : Int) := by
  rw [IntKind.wrap_u64]
  exact Int.emod_eq_of_lt (Int.natCast_nonneg _) (Int.ofNat_lt.2 h)
theorem bits_and127 (x : Nat) (hx : x < 256) : bits .and .u8 (x : Int) 127 = ((x % 128 : Nat) : Int) := by
  have h2 : (127 : Int) = ((127 : Nat) : Int) := rfl
  rw [h2, u8_and_nat _ _ hx (by omega), nat_mask7]
theorem bits_add {N x k : Nat} (hN : N < 128 ^ k) (hk : k ≤ 9) (hx : x < 256) (h9 : k = 9 → x ≤ 1) :
    bits .or .u64 (N : Int) (IntKind.u64.wrap (IntKind.u64.wrap (bits .and .u8 (x : Int) 127) * 2 ^ (7 * k))) = ((N + x % 128 * 128 ^ k : Nat) : Int) := by
  have ht := top128 hk h9
  have hl := low128 hk hN
  rw [bits_and127 x hx, wrap_u64_of (by omega)]
  have e : ((x % 128 : Nat) : Int) * 2 ^ (7 * k) = ((x % 128 * 128 ^ k : Nat) : Int) := by
    rw [← pow128]
    push_cast
    rfl
  rw [e, wrap_u64_of ht, u64_or_nat _ _ hl ht, Nat.or_comm, nat_join (7 * k) _ _ (by rw [pow128]; exact Nat.mul_mod_left _ _) (by rw [pow128]; exact hN)]
  congr 1
  omega

/-- What bytes come to, seven bits of each, the lowest first. -/
def low : List UInt8 → Nat
  | [] => 0
  | c :: t => c.toNat % 128 + 128 * low t
theorem low_snoc (a : List UInt8) (c : UInt8) : low (a ++ [c]) = low a + c.toNat % 128 * 128 ^ a.length := by
  induction a with
  | nil => simp [low]
  | cons d a ih =>
    simp only [List.cons_append, low, ih, List.length_cons, Nat.pow_succ]
    rw [Nat.mul_add, Nat.mul_comm (128 ^ a.length) 128, Nat.mul_left_comm]
    omega
theorem low_lt (a : List UInt8) : low a < 128 ^ a.length := by
  induction a with
  | nil => simp [low]
  | cons d a ih =>
    simp only [low, List.length_cons, Nat.pow_succ]
    omega
theorem low_drop (a : List UInt8) (k : Nat) : low (a.drop k) ≤ low a := by
  induction a generalizing k with
  | nil => simp
  | cons d a ih =>
    cases k with
    | zero => simp
    | succ k =>
      have := ih k
      simp only [List.drop_succ_cons, low]
      omega
theorem low_take_succ (l : List UInt8) (k : Nat) (h : k < l.length) : low (l.take (k + 1)) = low (l.take k) + l[k].toNat % 128 * 128 ^ k := by
  rw [List.take_succ_eq_append_getElem h, low_snoc, List.length_take, Nat.min_eq_left (by omega)]
theorem low_at (l : List UInt8) (i k : Nat) (hi : i < l.length) (hk : k ≤ i) : low ((l.take (i + 1)).drop k) = l[k].toNat % 128 + 128 * low ((l.take (i + 1)).drop (k + 1)) := by
  have h : k < (l.take (i + 1)).length := by rw [List.length_take]; omega
  rw [List.drop_eq_getElem_cons h, low]
  simp
theorem low_room {l : List UInt8} {i : Nat} (hi : i < l.length) (h9 : i ≤ 9) (hx : i = 9 → l[i].toNat ≤ 1) : low (l.take (i + 1)) < 18446744073709551616 := by
  rw [low_take_succ l i hi]
  have h1 := low_lt (l.take i)
  rw [List.length_take, Nat.min_eq_left (by omega)] at h1
  rcases Nat.lt_or_ge i 9 with h | h
  · have h2 := room128 (x := l[i].toNat) h1
    have h3 : (128 : Nat) ^ (i + 1) ≤ 128 ^ 9 := Nat.pow_le_pow_right (by omega) (by omega)
    rw [p128_9] at h3
    omega
  · have e : i = 9 := by omega
    subst e
    have := hx rfl
    rw [p128_9] at h1 ⊢
    have h2 : l[9].toNat % 128 * 9223372036854775808 ≤ 1 * 9223372036854775808 := Nat.mul_le_mul_right _ (by omega)
    omega
theorem horner {y S : Nat} (h : y % 128 + 128 * S < 18446744073709551616) : IntKind.u64.wrap (IntKind.u64.wrap (128 * (S : Int)) + (y : Int) % 128) = ((y % 128 + 128 * S : Nat) : Int) := by
  have h1 : (128 : Int) * (S : Int) = ((128 * S : Nat) : Int) := by push_cast; rfl
  have h2 : (y : Int) % 128 = ((y % 128 : Nat) : Int) := by omega
  rw [h1, h2, wrap_u64_of (by omega)]
  have h3 : ((128 * S : Nat) : Int) + ((y % 128 : Nat) : Int) = ((y % 128 + 128 * S : Nat) : Int) := by omega
  rw [h3, wrap_u64_of h]
theorem nextL_err (i a : Nat) (l : List UInt8) : (nextL i a l).2.2 = 0 ∨ ((nextL i a l).1 = 0 ∧ (nextL i a l).2.1 = 0 ∧ (nextL i a l).2.2 < 4) := by
  induction l generalizing i a with
  | nil => right; simp [nextL]
  | cons c t ih =>
    rw [nextL_cons]
    split
    · right; simp
    · split
      · left; rfl
      · exact ih _ _
/-- What is read is put as it was. -/
theorem nextL_ok (l : List UInt8) : ∀ (i a r1 r2 : Nat), i ≤ 9 → a < 128 ^ i → nextL i a l = (r1, r2, 0) →
    ∃ j, j ≤ l.length ∧ r2 = i + j ∧ r2 ≤ 10 ∧ r1 = a + low (l.take j) * 128 ^ i ∧ enc (low (l.take j)) = l.take j ∧ (0 < i → 0 < low (l.take j)) ∧ r1 < 18446744073709551616 := by
  induction l with
  | nil => intro i a r1 r2 _ _ h; simp [nextL] at h
  | cons c t ih =>
    intro i a r1 r2 hi ha h
    have hc := c.toNat_lt
    rw [nextL_cons] at h
    split at h
    · simp at h
    · rename_i hbad
      split at h
      · rename_i hlt
        simp only [Prod.mk.injEq, and_true] at h
        obtain ⟨h1, h2⟩ := h
        have hm : c.toNat % 128 = c.toNat := Nat.mod_eq_of_lt hlt
        have hl : low ((c :: t).take 1) = c.toNat := by simp [low, hm]
        refine ⟨1, by simp, by omega, by omega, by rw [hl, ← h1, hm], ?_, ?_, ?_⟩
        · rw [hl, enc_lt hlt]
          simp
        · intro h0
          rw [hl]
          omega
        · have ht := top128 (x := c.toNat) hi (by omega)
          have hl2 := low128 hi ha
          rw [← h1]
          rcases Nat.lt_or_ge i 9 with h9 | h9
          · have h3 := room128 (x := c.toNat) ha
            have h4 : (128 : Nat) ^ (i + 1) ≤ 128 ^ 9 := Nat.pow_le_pow_right (by omega) (by omega)
            rw [p128_9] at h4
            omega
          · obtain rfl : i = 9 := by omega
            rw [p128_9] at ha ⊢
            have : c.toNat % 128 * 9223372036854775808 ≤ 1 * 9223372036854775808 := Nat.mul_le_mul_right _ (by omega)
            omega
      · rename_i hge
        obtain ⟨j, hj1, hj2, hj3, hj4, hj5, hj6, hj7⟩ := ih (i + 1) _ r1 r2 (by omega) (room128 ha) h
        have hpos := hj6 (by omega)
        have hl : low ((c :: t).take (j + 1)) = c.toNat % 128 + 128 * low (t.take j) := by simp [low]
        refine ⟨j + 1, by simp; omega, by omega, hj3, ?_, ?_, ?_, hj7⟩
        · rw [hl, hj4, Nat.pow_succ, Nat.add_mul, Nat.mul_comm (128 ^ i) 128, Nat.mul_comm 128 (low _), Nat.mul_assoc, Nat.add_assoc]
        · rw [hl, enc_ge (by omega)]
          have e1 : (c.toNat % 128 + 128 * low (t.take j)) % 128 + 128 = c.toNat := by omega
          have e2 : (c.toNat % 128 + 128 * low (t.take j)) / 128 = low (t.take j) := by omega
          rw [e1, e2, hj5]
          simp
        · intro _
          rw [hl]
          omega
theorem next_ok {l : List UInt8} {r1 r2 : Nat} (h : next l = (r1, r2, 0)) : r2 ≤ l.length ∧ r2 ≤ 10 ∧ enc r1 = l.take r2 ∧ r1 < 18446744073709551616 := by
  obtain ⟨j, h1, h2, h3, h4, h5, _, h7⟩ := nextL_ok l 0 0 r1 r2 (by omega) (by simp) h
  have e : r2 = j := by omega
  subst e
  have e2 : r1 = low (l.take r2) := by simpa using h4
  exact ⟨h1, h3, by rw [e2]; exact h5, h7⟩
/-- What is left of a reader, and what is wrong. -/
structure RdS where
  l : List UInt8
  e : Nat
def RdS.number (s : RdS) (most : Nat) : Nat × RdS :=
  if s.e ≠ 0 then (0, s) else if (next s.l).2.2 ≠ 0 then (0, ⟨s.l, (next s.l).2.2⟩) else if most < (next s.l).1 then (0, ⟨s.l, 5⟩) else ((next s.l).1, ⟨s.l.drop (next s.l).2.1, 0⟩)
def RdS.bytes (s : RdS) (most : Int) : List UInt8 × RdS :=
  let r := s.number (max most 0).toNat
  if r.2.e ≠ 0 then ([], r.2) else if r.2.l.length < r.1 then ([], ⟨r.2.l, 2⟩) else (r.2.l.take r.1, ⟨r.2.l.drop r.1, 0⟩)
def RdS.fin (s : RdS) : Nat := if s.e ≠ 0 then s.e else if 0 < s.l.length then 5 else 0

end Go.Proofs.Ytcbngjpihcemiaa

/- What the functions of package varint come to: slices.Clip, Put. -/
namespace Go.Proofs.Ytcbngjpihcemiaa
open Go.RowKit

/-- Whole numbers as cells. -/
def vu (l : List Nat) : List Value := l.map fun n : Nat => .int .u64 (n : Int)
theorem vu_get {l : List Nat} {i N : Nat} (h : l[i]? = some N) : (vu l)[i]? = some (.int .u64 (N : Int)) := by simp [vu, h]

set_option maxHeartbeats 1000000 in
set_option maxRecDepth 100000 in
theorem put_any (A : Option Addr) (n c : Nat) (b : List UInt8) (L : Option Addr) (m cl : Nat) (l : List Nat) (w : World) (hb : b.length = n) (hn : n ≤ c) (hm : c ≤ maxLen) (hr : Rd w w.heap.size A (vb b)) (hA : A = none → n = 0)
    (hl : l.length = m) (hrl : Rd w w.heap.size L (vu l)) (hlt : ∀ x ∈ l, x < 18446744073709551616) (hsz : (b ++ encs l).length ≤ 70368744177664) (hm2 : m ≤ 70368744177664) :
    Calls Try.prog 105 #[.slice A n c, .slice L m cl] w fun e w' => ∃ v, e = .returned v ∧ AppB w' w.heap.size 5 v (b ++ encs l) ∧ Below w.heap.size w w' := by
  have Hb := Lib.hid hb
  have Hl := Lib.hid hl
  have Hlt := Lib.hid hlt
  have Hsz := Lib.hid hsz
  clear hb hl hlt hsz
  go_enter Try.func105, Try.ntmps105
  go_wp2_with (go_at_call 144; refine (clip_any _ _ _ _ hn hm).mono ?_; rintro e w1 ⟨rfl, rfl⟩)
  go_loopw [0, 11] (fun v i wr => ∃ k : Nat, k ≤ m ∧ i = .int .i64 k ∧ AppB wr w.heap.size 5 v (b ++ encs (l.take k)) ∧ Below w.heap.size w wr) (fun _ i _ => m - (intOf i).toNat)
  case atStart => 
    refine ⟨0, Nat.zero_le _, rfl, ?_, Below.refl _ _⟩
    rw [List.take_zero, encs_nil, List.append_nil]
    exact AppB.clip Hb.out hA hr
  case round =>
    obtain ⟨k, hk, rfl, happ, hbel⟩ := hrel
    by_cases hlt2 : k < m
    · obtain ⟨N0, hN0, hmem, htake, hle⟩ := encs_step b l k _ (by have := Hl.out; omega) Hsz.out
      obtain ⟨bL, oL, rfl, hbL, hcell⟩ := hrl k _ (vu_get hN0)
      rw [← hbel.cell (p := ⟨bL, oL + k, none⟩) hbL] at hcell
      have HN0 := Lib.hid (Hlt.out _ hmem)
      have Hle := Lib.hid hle
      clear hle
      have Ht := Lib.hid htake
      clear htake hN0
      go_wp2_with fail
      obtain ⟨wo, rfl⟩ : ∃ wo : World, wo = wr := ⟨_, rfl⟩
      go_loopw [0, 6] (fun v nv wr => ∃ (acc : List UInt8) (N : Nat), nv = .int .u64 N ∧ N ≤ N0 ∧ AppB wr w.heap.size 5 v acc ∧ Hid (acc ++ enc N = b ++ encs (l.take (k + 1))) ∧ Below w.heap.size w wr) (fun _ nv _ => (intOf nv).toNat)
      case atStart =>
        exact ⟨b ++ encs (l.take k), N0, rfl, Nat.le_refl _, happ, by rw [Ht.out, List.append_assoc]; rfl, hbel⟩
      case round =>
        obtain ⟨acc, N, rfl, hN, happ, HE, hbel⟩ := hrel
        have haccl := enc_room HE.out
        have hroom : acc.length + 1 ≤ 140737488355328 := by have := Hle.out; omega
        have Hroom := Lib.hid hroom
        clear hroom haccl
        by_cases hN2 : (N : Int) < 128
        · go_wp2_with (at_builtin; refine wpList_append_byte _ rfl (.tmp 25) (.tmp 28) _ rfl w.heap.size _ _ elm_u8 _ acc rfl happ _ rfl Hroom.out hbel.size (by omega) ?_; intro v1 w1 happ1 hbel1 _)
          go_roundw
          case rel => 
            refine ⟨k + 1, by omega, by go_num, ?_, hbel.trans hbel1⟩
            rw [← HE.out, enc_lt (by omega)]
            exact happ1
          case measure => simp [intOf]; omega
        · have hbits := bits_more N
          go_wp2_with (at_builtin; refine wpList_append_byte _ rfl (.tmp 19) (.tmp 23) _ rfl w.heap.size _ _ elm_u8 _ acc rfl happ _ rfl Hroom.out hbel.size (by omega) ?_; intro v1 w1 happ1 hbel1 _)
          clear hbits
          go_roundw
          case rel => 
            refine ⟨acc ++ [UInt8.ofNat (N % 128 + 128)], N / 128, by go_num, by omega, ?_, ?_, hbel.trans hbel1⟩
            · rw [more_byte] at happ1
              exact happ1
            · have h := HE.out
              rw [enc_ge (by omega)] at h
              show _ = _
              rw [← h, List.append_assoc]
              rfl
          case measure => simp [intOf]; omega
    · go_wp2
      go_ret
      obtain rfl : k = m := by omega
      refine ⟨_, rfl, ?_, hbel⟩
      rw [← Hl.out, List.take_length] at happ
      exact happ
end Go.Proofs.Ytcbngjpihcemiaa

/- What the two functions Next come to, the program's and the document's: 'next'. -/
namespace Go.Proofs.Ytcbngjpihcemiaa
open Go.RowKit

set_option maxHeartbeats 2000000 in
set_option maxRecDepth 100000 in
theorem next_any (A : Option Addr) (n c B : Nat) (l : List UInt8) (w : World) (hl : l.length = n) (hn : n ≤ 9223372036854775000) (hr : Rd w B A (vb l)) :
    Calls Try.prog 152 #[.slice A n c] w fun e w' => e = .returned (.tuple #[.int .u64 ((next l).1 : Int), .int .i64 ((next l).2.1 : Int), .int .i64 ((next l).2.2 : Int)]) ∧ w = w' := by
  have Hl := Lib.hid hl
  clear hl
  generalize hN : next l = R
  have HN := Lib.hid hN
  clear hN
  obtain ⟨r1, r2, r3⟩ := R
  go_enter Try.func152, Try.ntmps152
  go_wp2
  go_loop [5, 10] (fun a i => ∃ k N : Nat, k ≤ n ∧ k ≤ 9 ∧ i = .int .i64 k ∧ a = .int .u64 N ∧ Hid (N < 128 ^ k) ∧ Hid (nextL k N (l.drop k) = (r1, r2, r3))) (fun _ i => n - (intOf i).toNat)
  case atStart => exact ⟨0, 0, Nat.zero_le _, by omega, rfl, rfl, (by decide : 0 < 128 ^ 0), HN.out⟩
  case round =>
    obtain ⟨k, N, hk, hk9, rfl, rfl, HNk, HX⟩ := hrel
    by_cases hlt : k < n
    · have hkl : k < l.length := by have := Hl.out; omega
      obtain ⟨b, off, rfl, hb, hcell⟩ := hr.byte hkl
      have hX := HX.out
      rw [List.drop_eq_getElem_cons hkl, nextL_cons] at hX
      have hx256 : (l[k].toNat : Int) < 256 := by have := l[k].toNat_lt; omega
      generalize l[k].toNat = x at *
      have hj : x < 256 := by omega
      by_cases hbad : (k = 9 ∧ 1 < x) ∨ (0 < k ∧ x = 0)
      · rw [if_pos hbad] at hX
        simp only [Prod.mk.injEq] at hX
        obtain ⟨rfl, rfl, rfl⟩ := hX
        rcases (show (9 ≤ k ∧ 1 < x) ∨ (0 < k ∧ k < 9 ∧ x < 1) ∨ (9 ≤ k ∧ x < 1) from by omega) with ⟨h9, hx⟩ | ⟨h0, h9, hx⟩ | ⟨h9, hx⟩
        · have h9' : ((k : Int) == 9) = true := beq_iff_eq.2 (by omega)
          have hx' : (1 : Int) < (x : Int) := by omega
          clear hbad hkl
          go_wp2
          go_ret3
          exact ⟨rfl, rfl⟩
        · have h9' : ((k : Int) == 9) = false := beq_eq_false_iff_ne.2 (by omega)
          have h0' : (0 : Int) < (k : Int) := by omega
          have hx' : ((x : Int) == 0) = true := beq_iff_eq.2 (by omega)
          clear hbad hkl
          go_wp2
          go_ret3
          exact ⟨rfl, rfl⟩
        · have h9' : ((k : Int) == 9) = true := beq_iff_eq.2 (by omega)
          have h0' : (0 : Int) < (k : Int) := by omega
          have hx' : ((x : Int) == 0) = true := beq_iff_eq.2 (by omega)
          have hx1 : ¬ (1 : Int) < (x : Int) := by omega
          clear hbad hkl
          go_wp2
          go_ret3
          exact ⟨rfl, rfl⟩
      · rw [if_neg hbad] at hX
        have hsum := bits_add HNk.out hk9 hj (by omega)
        have hroom := room128 (x := x) HNk.out
        have Hroom := Lib.hid hroom
        clear hroom
        generalize N + x % 128 * 128 ^ k = N1 at *
        by_cases hlast : (x : Int) < 128
        · rw [if_pos (by omega)] at hX
          simp only [Prod.mk.injEq] at hX
          obtain ⟨rfl, rfl, rfl⟩ := hX
          rcases (show (9 ≤ k ∧ ¬ 1 < x ∧ x ≠ 0) ∨ (0 < k ∧ k < 9 ∧ x ≠ 0) ∨ k < 1 from by omega) with ⟨h9, hx, hx0⟩ | ⟨h0, h9, hx0⟩ | h0
          · have h9' : ((k : Int) == 9) = true := beq_iff_eq.2 (by omega)
            have h0' : (0 : Int) < (k : Int) := by omega
            have hx1 : ¬ (1 : Int) < (x : Int) := by omega
            have hx' : ((x : Int) == 0) = false := beq_eq_false_iff_ne.2 (by omega)
            clear hbad hkl
            go_wp2
            go_ret3
            exact ⟨by first | rfl | (simp; done), rfl⟩
          · have h9' : ((k : Int) == 9) = false := beq_eq_false_iff_ne.2 (by omega)
            have h0' : (0 : Int) < (k : Int) := by omega
            have hx0' : ((x : Int) == 0) = false := beq_eq_false_iff_ne.2 (by omega)
            clear hbad hkl
            go_wp2
            go_ret3
            exact ⟨by first | rfl | (simp; done), rfl⟩
          · have h9' : ((k : Int) == 9) = false := beq_eq_false_iff_ne.2 (by omega)
            have h0' : ¬ (0 : Int) < (k : Int) := by omega
            clear hbad hkl
            go_wp2
            go_ret3
            exact ⟨by first | rfl | (simp; done), rfl⟩
        · rw [if_neg (by omega)] at hX
          have hk8 : k < 9 := by omega
          have h9' : ((k : Int) == 9) = false := beq_eq_false_iff_ne.2 (by omega)
          have HX := Lib.hid hX
          rcases (show (0 < k ∧ x ≠ 0) ∨ k < 1 from by omega) with ⟨h0, hx0⟩ | h0
          · have h0' : (0 : Int) < (k : Int) := by omega
            have hx0' : ((x : Int) == 0) = false := beq_eq_false_iff_ne.2 (by omega)
            clear hbad hkl hX
            go_wp2
            go_round
            case rel => exact ⟨k + 1, N1, by omega, by omega, by go_num, rfl, Hroom, HX⟩
            case measure => simp [intOf]; omega
          · have h0' : ¬ (0 : Int) < (k : Int) := by omega
            clear hbad hkl hX
            go_wp2
            go_round
            case rel => exact ⟨k + 1, N1, by omega, by omega, by go_num, rfl, Hroom, HX⟩
            case measure => simp [intOf]; omega
    · go_wp2
      have hX := HX.out
      rw [List.drop_of_length_le (by have := Hl.out; omega), nextL_nil] at hX
      simp only [Prod.mk.injEq] at hX
      obtain ⟨rfl, rfl, rfl⟩ := hX
      go_ret3
      exact ⟨rfl, rfl⟩

set_option maxHeartbeats 2000000 in
set_option maxRecDepth 100000 in
theorem refnext_any (A : Option Addr) (n c B : Nat) (l : List UInt8) (w : World) (hl : l.length = n) (hn : n ≤ 9223372036854775000) (hr : Rd w B A (vb l)) :
    Calls Try.prog 154 #[.slice A n c] w fun e w' => e = .returned (.tuple #[.int .u64 ((next l).1 : Int), .int .i64 ((next l).2.1 : Int), .int .i64 ((next l).2.2 : Int)]) ∧ w = w' := by
  have Hl := Lib.hid hl
  clear hl
  generalize hN : next l = R
  have HN := Lib.hid hN
  clear hN
  obtain ⟨r1, r2, r3⟩ := R
  go_enter Try.func154, Try.ntmps154
  go_wp2
  go_loop [5] (fun i => ∃ k : Nat, k ≤ n ∧ k ≤ 9 ∧ i = .int .i64 k ∧ Hid (nextL k (low (l.take k)) (l.drop k) = (r1, r2, r3))) (fun i => n - (intOf i).toNat)
  case atStart => exact ⟨0, Nat.zero_le _, by omega, rfl, HN.out⟩
  case round =>
    obtain ⟨k, hk, hk9, rfl, HX⟩ := hrel
    by_cases hlt : k < n
    · have hkl : k < l.length := by have := Hl.out; omega
      obtain ⟨b, off, rfl, hb, hcell⟩ := hr.byte hkl
      have hX := HX.out
      rw [List.drop_eq_getElem_cons hkl, nextL_cons, ← low_take_succ l k hkl] at hX
      have hx256 : (l[k].toNat : Int) < 256 := by have := l[k].toNat_lt; omega
      have hroom := fun h : k = 9 → l[k].toNat ≤ 1 => low_room hkl hk9 h
      generalize l[k].toNat = x at *
      by_cases hbad : (k = 9 ∧ 1 < x) ∨ (0 < k ∧ x = 0)
      · rw [if_pos hbad] at hX
        simp only [Prod.mk.injEq] at hX
        obtain ⟨rfl, rfl, rfl⟩ := hX
        clear hroom
        rcases (show (9 ≤ k ∧ 1 < x) ∨ (0 < k ∧ k < 9 ∧ x < 1) ∨ (9 ≤ k ∧ x < 1) from by omega) with ⟨h9, hx⟩ | ⟨h0, h9, hx⟩ | ⟨h9, hx⟩
        · have h9' : ((k : Int) == 9) = true := beq_iff_eq.2 (by omega)
          have hx' : (1 : Int) < (x : Int) := by omega
          clear hbad hkl
          go_wp2
          go_ret3
          exact ⟨rfl, rfl⟩
        · have h9' : ((k : Int) == 9) = false := beq_eq_false_iff_ne.2 (by omega)
          have h0' : (0 : Int) < (k : Int) := by omega
          have hx' : ((x : Int) == 0) = true := beq_iff_eq.2 (by omega)
          clear hbad hkl
          go_wp2
          go_ret3
          exact ⟨rfl, rfl⟩
        · have h9' : ((k : Int) == 9) = true := beq_iff_eq.2 (by omega)
          have h0' : (0 : Int) < (k : Int) := by omega
          have hx' : ((x : Int) == 0) = true := beq_iff_eq.2 (by omega)
          have hx1 : ¬ (1 : Int) < (x : Int) := by omega
          clear hbad hkl
          go_wp2
          go_ret3
          exact ⟨rfl, rfl⟩
      · rw [if_neg hbad] at hX
        by_cases hlast : (x : Int) < 128
        · rw [if_pos (by omega)] at hX
          simp only [Prod.mk.injEq] at hX
          obtain ⟨rfl, rfl, rfl⟩ := hX
          have Hroom := Lib.hid (hroom (by omega))
          have hcases : (((k : Int) == 9) = true ∧ ((0 : Int) < (k : Int)) ∧ (¬ (1 : Int) < (x : Int)) ∧ ((x : Int) == 0) = false) ∨ (((k : Int) == 9) = false ∧ ((0 : Int) < (k : Int)) ∧ ((x : Int) == 0) = false) ∨ (((k : Int) == 9) = false ∧ ¬ ((0 : Int) < (k : Int))) := by
            simp only [beq_iff_eq, beq_eq_false_iff_ne, ne_eq]
            omega
          clear hroom hbad
          rcases hcases with ⟨h9', h0', hx1, hx'⟩ | ⟨h9', h0', hx'⟩ | ⟨h9', h0'⟩
          all_goals
            go_wp2
            go_loop [6, 7] (fun s j => ∃ J : Int, -1 ≤ J ∧ J ≤ k ∧ j = .int .i64 J ∧ s = .int .u64 (low ((l.take (k + 1)).drop (J + 1).toNat) : Nat)) (fun _ j => (intOf j + 1).toNat)
            case atStart => exact ⟨k, by omega, by omega, rfl, by rw [List.drop_of_length_le (by rw [List.length_take]; omega)]; rfl⟩
            case round =>
              obtain ⟨J, hJ1, hJ2, rfl, rfl⟩ := hrel
              by_cases hJ : 0 ≤ J
              · obtain ⟨q, rfl⟩ := Int.eq_ofNat_of_zero_le hJ
                obtain ⟨b', off', e, _, hq⟩ := hr.byte (i := q) (by omega)
                simp only [Option.some.injEq, Addr.mk.injEq, and_true] at e
                obtain ⟨rfl, rfl⟩ := e
                have hlow := low_at l k q hkl (by omega)
                have hle := low_drop (l.take (k + 1)) q
                have hlt2 := Nat.lt_of_le_of_lt hle Hroom.out
                have hy256 : (l[q].toNat : Int) < 256 := by have := l[q].toNat_lt; omega
                have hq1 : ((q : Int) + 1).toNat = q + 1 := rfl
                rw [hq1]
                generalize l[q].toNat = y at *
                generalize hS : low (List.drop (q + 1) (List.take (k + 1) l)) = S at *
                have hwrap := horner (y := y) (S := S) (by omega)
                rw [← hlow] at hwrap
                have HS := Lib.hid hS
                clear hlow hle hlt2 hS hq1
                go_wp2
                go_round
                case rel => exact ⟨(q : Int) - 1, by omega, by omega, rfl, by rw [show ((q : Int) - 1 + 1).toNat = q from by omega]⟩
                case measure => first | (simp [intOf]; done) | (simp [intOf]; omega)
              · obtain rfl : J = -1 := by omega
                go_wp2
                go_ret3
                exact ⟨by first | rfl | (simp; done), rfl⟩
        · rw [if_neg (by omega)] at hX
          have hk8 : k < 9 := by omega
          have h9' : ((k : Int) == 9) = false := beq_eq_false_iff_ne.2 (by omega)
          have HX := Lib.hid hX
          clear hroom
          rcases (show (0 < k ∧ x ≠ 0) ∨ k < 1 from by omega) with ⟨h0, hx0⟩ | h0
          · have h0' : (0 : Int) < (k : Int) := by omega
            have hx0' : ((x : Int) == 0) = false := beq_eq_false_iff_ne.2 (by omega)
            clear hbad hkl hX
            go_wp2
            go_round
            case rel => exact ⟨k + 1, by omega, by omega, by go_num, HX⟩
            case measure => simp [intOf]; omega
          · have h0' : ¬ (0 : Int) < (k : Int) := by omega
            clear hbad hkl hX
            go_wp2
            go_round
            case rel => exact ⟨k + 1, by omega, by omega, by go_num, HX⟩
            case measure => simp [intOf]; omega
    · go_wp2
      have hX := HX.out
      rw [List.drop_of_length_le (by have := Hl.out; omega), nextL_nil] at hX
      simp only [Prod.mk.injEq] at hX
      obtain ⟨rfl, rfl, rfl⟩ := hX
      go_ret3
      exact ⟨rfl, rfl⟩
end Go.Proofs.Ytcbngjpihcemiaa

/- Numbers out of bytes: the readers, on the ghost side. -/
namespace Go.Proofs.Ytcbngjpihcemiaa
open Go.RowKit

/-- What was told of bytes is so behind. -/
def BSk (H H' : Hp) : Prop := ∀ v L, BS H v L → BS H' v L
theorem BSk.refl (H : Hp) : BSk H H := fun _ _ h => h
theorem BSk.of {H H' : Hp} (h : HExt [] H H') : BSk H H' := fun _ _ k => k.ext h
theorem BSk.trans {H H1 H2 : Hp} (h : BSk H H1) (k : BSk H1 H2) : BSk H H2 := fun _ _ q => k _ _ (h _ _ q)
/-- A reader's struct. -/
def rdBlk (T : TypeId) (v : Value) (e : Int) : Blk := ⟨T, 1, [v, .int .i64 e], true⟩
theorem bs_put {H : Hp} {j : Nat} {b b' : Blk} {x : Value} {L : List UInt8} (hb : H.at j = some b) (hno : allU8 b.cs = false) (h : BS H x L) : BS (H.put j b') x L := by
  cases h with
  | none => exact .none
  | some hb2 hs hl ho hu =>
    refine .some ((Hp.at_put_ne ?_).trans hb2) hs hl ho hu
    rintro rfl
    rw [hb] at hb2
    injection hb2 with hb2
    subst hb2
    rw [hu] at hno
    cases hno
/-- A reader in the heap. -/
structure RG (T : TypeId) (H : Hp) (g : Nat) (p : Option Addr) (c : Nat) (s : RdS) : Prop where
  hg : H.at g = some (rdBlk T (.slice p s.l.length c) s.e)
  hb : BS H (.slice p s.l.length c) s.l
  hl : s.l.length ≤ 140737488355328
theorem rg_mk {T : TypeId} {H : Hp} {g : Nat} {p : Option Addr} {c : Nat} {s : RdS} {b : Blk} (hg : H.at g = some b) (e : b = rdBlk T (.slice p s.l.length c) s.e) (hb : BS H (.slice p s.l.length c) s.l) (hl : s.l.length ≤ 140737488355328) : RG T H g p c s := ⟨hg.trans (congrArg some e), hb, hl⟩
theorem bsk_put {H : Hp} {j : Nat} {b b' : Blk} (hb : H.at j = some b) (hno : allU8 b.cs = false) : BSk H (H.put j b') := fun _ _ h => bs_put hb hno h
theorem rg_ne {H : Hp} {T : TypeId} {g j : Nat} {p : Option Addr} {c : Nat} {s : RdS} {b b' : Blk} (h : RG T H g p c s) (hb : H.at j = some b) (hne : j ≠ g) (hno : allU8 b.cs = false) : RG T (H.put j b') g p c s := ⟨(Hp.at_put_ne hne).trans h.hg, bs_put hb hno h.hb, h.hl⟩
theorem rg_ext {T : TypeId} {H H' : Hp} {g : Nat} {p : Option Addr} {c : Nat} {s : RdS} (h : RG T H g p c s) (k : HExt [] H H') : RG T H' g p c s := ⟨(k.eq g (Hp.at_lt h.hg) (by intro h; cases h)).trans h.hg, h.hb.ext k, h.hl⟩
set_option maxHeartbeats 4000000 in
set_option maxRecDepth 100000 in
set_option linter.unusedSimpArgs false in
theorem g_next (H : Hp) (p : Option Addr) (n c : Nat) (L : List UInt8) (hb : BS H (.slice p n c) L) (hn : n ≤ 9223372036854775000) : GCalls Try.prog 152 [.slice p n c] [] H fun v H' => v = .tuple #[.int .u64 ((next L).1 : Int), .int .i64 ((next L).2.1 : Int), .int .i64 ((next L).2.2 : Int)] ∧ H' = H := by
  refine GCalls.plain1 hb (fun _ => .tuple (.cons (.int _ _) (.cons (.int _ _) (.cons (.int _ _) .nil)))) fun A c' w h1 h2 h3 h4 h5 => ?_
  refine (next_any A n c' _ L w h1 hn h5).mono fun e w' ⟨e1, e2⟩ => ⟨e1, ?_⟩
  subst e2
  exact Below.refl _ _
set_option maxHeartbeats 4000000 in
set_option maxRecDepth 100000 in
set_option linter.unusedSimpArgs false in
theorem g_failed (H : Hp) (g : Nat) (p : Option Addr) (c : Nat) (s : RdS) (h : RG 199 H g p c s) : GCalls Try.prog 124 [.pointer (some ⟨g, 0, none⟩)] [] H fun v H' => v = .int .i64 (s.e : Int) ∧ H' = H := by
  have hg := h.hg
  unfold rdBlk at hg
  refine GCalls.body tab_is Try.func124 rfl Try.results124 Try.ntmps124 (by simp) ?_ ?_
  · first | (intro _ h; cases h; done) | (simp; done) | (simp; omega) | (intro i hi; simp at hi; rcases hi with rfl | rfl <;> omega) | (intro i hi; simp at hi; rcases hi with rfl | rfl | rfl <;> omega)
  focus
    refine GWP.seq ?_
    refine GWP.region ?_
    refine GOps.r rfl rfl rfl rfl (grd_assign rfl rfl) ?_
    refine GOps.nil ?_
    refine GWP.seq ?_
    refine GWP.seq ?_
    refine GWP.region ?_
    refine GOps.r rfl rfl rfl rfl (grd_move rfl rfl) ?_
    refine GOps.r rfl rfl rfl rfl (grd_peql tab_is rfl rfl rfl rfl rfl) ?_
    refine GOps.nil ?_
    refine GWP.cond_f rfl ?_ ?_
    · simp; done
    refine GWP.skip ?_
    refine GWP.seq ?_
    refine GWP.region ?_
    refine GOps.r rfl rfl rfl rfl (grd_move rfl rfl) ?_
    refine GOps.r rfl rfl rfl rfl (grd_nil rfl rfl) ?_
    refine GOps.r rfl rfl rfl rfl (grd_fieldAddr tab_is rfl rfl rfl rfl rfl) ?_
    focus
      refine GOps.r rfl rfl rfl rfl (grd_load1 (b := ?_) (v := ?_) tab_is rfl rfl rfl rfl ?_ ?_) ?_
      rotate_left 2
      · assumption
      · rfl
    refine GOps.r rfl rfl rfl rfl (grd_assign rfl rfl) ?_
    refine GOps.nil ?_
    refine GWP.ret ?_
    refine ⟨_, .one rfl, ?_⟩
    refine ⟨?_, ?_⟩
    · rfl
    · rfl
set_option maxHeartbeats 4000000 in
set_option maxRecDepth 100000 in
set_option linter.unusedSimpArgs false in
theorem g_fail (H : Hp) (g : Nat) (p : Option Addr) (c : Nat) (s : RdS) (k : Int) (h : RG 199 H g p c s) (hk : s.e = 0) : GCalls Try.prog 153 [.pointer (some ⟨g, 0, none⟩), .int .i64 k] [g] H fun v H' => v = .tuple #[] ∧ H' = H.put g (rdBlk 199 (.slice p s.l.length c) k) := by
  have hg := h.hg
  unfold rdBlk at hg
  have hlt := Hp.at_lt hg
  refine GCalls.body tab_is Try.func153 rfl Try.results153 Try.ntmps153 (by simp) ?_ ?_
  · first | (intro _ h; cases h; done) | (simp; done) | (simp; omega) | (intro i hi; simp at hi; rcases hi with rfl | rfl <;> omega) | (intro i hi; simp at hi; rcases hi with rfl | rfl | rfl <;> omega)
  focus
    refine GWP.seq ?_
    refine GWP.region ?_
    refine GOps.r rfl rfl rfl rfl (grd_move rfl rfl) ?_
    refine GOps.r rfl rfl rfl rfl (grd_nil rfl rfl) ?_
    refine GOps.r rfl rfl rfl rfl (grd_fieldAddr tab_is rfl rfl rfl rfl rfl) ?_
    focus
      refine GOps.r rfl rfl rfl rfl (grd_load1 (b := ?_) (v := ?_) tab_is rfl rfl rfl rfl ?_ ?_) ?_
      rotate_left 2
      · assumption
      · rfl
    refine GOps.r rfl rfl rfl rfl (grd_eql rfl rfl rfl) ?_
    refine GOps.nil ?_
    refine GWP.cond_t rfl ?_ ?_
    · exact decide_eq_true (by omega)
    refine GWP.region ?_
    refine GOps.r rfl rfl rfl rfl (grd_move rfl rfl) ?_
    refine GOps.r rfl rfl rfl rfl (grd_move rfl rfl) ?_
    refine GOps.r rfl rfl rfl rfl (grd_nil rfl rfl) ?_
    refine GOps.r rfl rfl rfl rfl (grd_fieldAddr tab_is rfl rfl rfl rfl rfl) ?_
    focus
      refine GOps.s rfl rfl rfl (gop_store1 (b := ?_) tab_is rfl rfl rfl rfl rfl rfl ?_ ?_ ?_ ?_) ?_
      rotate_left 1
      · assumption
      · rfl
      · exact Nat.le_of_ble_eq_true rfl
      · exact .inl (by simp)
    refine GOps.nil ?_
    refine ⟨_, .none, ?_⟩
    refine ⟨?_, ?_⟩
    · rfl
    · rfl
theorem rg_put {H : Hp} {T : TypeId} {g : Nat} {p : Option Addr} {c : Nat} {s : RdS} (h : RG T H g p c s) {p' : Option Addr} {n' c' : Nat} {s' : RdS} (hb : BS H (.slice p' n' c') s'.l) (hn : n' = s'.l.length) (hl : s'.l.length ≤ 140737488355328) {e : Int} (he : e = (s'.e : Int)) : RG T (H.put g (rdBlk T (.slice p' n' c') e)) g p' c' s' := by
  subst he hn
  exact ⟨Hp.at_put_eq (Hp.at_lt h.hg), bs_put h.hg rfl hb, hl⟩
theorem rg_bsk {H : Hp} {T : TypeId} {g : Nat} {p : Option Addr} {c : Nat} {s : RdS} (h : RG T H g p c s) (v : Value) (e : Int) : BSk H (H.put g (rdBlk T v e)) := fun _ _ q => bs_put h.hg rfl q
set_option maxHeartbeats 4000000 in
set_option maxRecDepth 100000 in
set_option linter.unusedSimpArgs false in
theorem g_fail2 (H : Hp) (g : Nat) (p : Option Addr) (c : Nat) (s : RdS) (k : Int) (h : RG 199 H g p c s) (hk : s.e = 0) (e : Nat) (he : k = (e : Int)) : GCalls Try.prog 153 [.pointer (some ⟨g, 0, none⟩), .int .i64 k] [g] H fun v H' => v = .tuple #[] ∧ RG 199 H' g p c ⟨s.l, e⟩ ∧ BSk H H' ∧ HExt [g] H H' :=
  (g_fail H g p c s k h hk).mono fun v H' ⟨e1, e2⟩ => by
    subst e1 e2
    exact ⟨rfl, rg_put (s' := ⟨s.l, e⟩) h h.hb rfl h.hl he, rg_bsk h _ _, (HExt.refl _ _).put (.inl (by simp))⟩
theorem next_size (l : List UInt8) (h : (next l).2.2 = 0) : (next l).2.1 ≤ l.length := by
  generalize hn : next l = R at h ⊢
  obtain ⟨r1, r2, r3⟩ := R
  simp only at h
  subst h
  exact (next_ok hn).1
section
variable {s : RdS} {most : Int}
theorem num1 (h : (s.e : Int) ≠ 0) : s.number most.toNat = (0, s) := if_pos (by omega)
theorem num2 (h : ¬ (s.e : Int) ≠ 0) (h2 : ¬ ((next s.l).2.2 : Int) = 0) : s.number most.toNat = (0, ⟨s.l, (next s.l).2.2⟩) := by rw [RdS.number, if_neg (by omega), if_pos (by omega)]
theorem num3 (h0 : 0 ≤ most) (h : ¬ (s.e : Int) ≠ 0) (h2 : ((next s.l).2.2 : Int) = 0) (h3 : most < (next s.l).1) : s.number most.toNat = (0, ⟨s.l, 5⟩) := by
  rw [RdS.number, if_neg (by omega), if_neg (by omega), if_pos (by omega)]
theorem num4 (h : ¬ (s.e : Int) ≠ 0) (h2 : ((next s.l).2.2 : Int) = 0) (h3 : ¬ most < (next s.l).1) : s.number most.toNat = ((next s.l).1, ⟨s.l.drop (next s.l).2.1, 0⟩) := by rw [RdS.number, if_neg (by omega), if_neg (by omega), if_neg (by omega)]
end
set_option maxHeartbeats 4000000 in
set_option maxRecDepth 100000 in
set_option linter.unusedSimpArgs false in
theorem g_number (H : Hp) (g : Nat) (p : Option Addr) (c : Nat) (s : RdS) (most : Int) (h0 : 0 ≤ most) (h : RG 199 H g p c s) : GCalls Try.prog 123 [.pointer (some ⟨g, 0, none⟩), .int .u64 most] [g] H fun v H' => v = .int .u64 ((s.number most.toNat).1 : Int) ∧ (∃ p' c', RG 199 H' g p' c' (s.number most.toNat).2) ∧ BSk H H' ∧ HExt [g] H H' := by
  have hg := h.hg
  have hb := h.hb
  have hl := h.hl
  unfold rdBlk at hg
  have hlt := Hp.at_lt hg
  have hsz := next_size s.l
  refine GCalls.body tab_is Try.func123 rfl Try.results123 Try.ntmps123 (by simp) ?_ ?_
  · first | (intro _ h; cases h; done) | (simp; done) | (simp; omega) | (intro i hi; simp at hi; rcases hi with rfl | rfl <;> omega) | (intro i hi; simp at hi; rcases hi with rfl | rfl | rfl <;> omega)
  focus
    refine GWP.seq ?_
    refine GWP.region ?_
    refine GOps.r rfl rfl rfl rfl (grd_assign rfl rfl) ?_
    refine GOps.nil ?_
    refine GWP.seq ?_
    refine GWP.seq ?_
    refine GWP.region ?_
    refine GOps.r rfl rfl rfl rfl (grd_move rfl rfl) ?_
    refine GOps.w1 rfl rfl rfl rfl (gop_call rfl Try.call124 rfl ?_ (g_failed H g p c s h)) ?_
    · intro _ h; cases h; done
    refine GOps.r rfl rfl rfl rfl (grd_neq rfl rfl rfl) ?_
    refine GOps.nil ?_
    refine GWP.cond rfl (fun c1 => ?_) (fun c1 => ?_)
    simp only [beq_true, beq_false, Bool.not_true, Bool.not_false, Bool.not_eq_true', Bool.not_eq_false', decide_eq_true_eq, decide_eq_false_iff_not] at c1
    refine GWP.seq ?_
    refine GWP.region ?_
    refine GOps.r rfl rfl rfl rfl (grd_assign rfl rfl) ?_
    refine GOps.nil ?_
    refine GWP.ret ?_
    refine ⟨_, .one rfl, ?_⟩
    refine ⟨?_, ?_⟩
    rotate_left 1
    refine ⟨?_, ?_⟩
    rotate_left 1
    refine ⟨?_, ?_⟩
    · exact BSk.refl _
    · exact HExt.refl _ _
    simp only [beq_true, beq_false, Bool.not_true, Bool.not_false, Bool.not_eq_true', Bool.not_eq_false', decide_eq_true_eq, decide_eq_false_iff_not] at c1
    refine GWP.skip ?_
    refine GWP.seq ?_
    refine GWP.region ?_
    refine GOps.r rfl rfl rfl rfl (grd_move rfl rfl) ?_
    refine GOps.r rfl rfl rfl rfl (grd_nil rfl rfl) ?_
    refine GOps.r rfl rfl rfl rfl (grd_fieldAddr tab_is rfl rfl rfl rfl rfl) ?_
    focus
      refine GOps.r rfl rfl rfl rfl (grd_load1 (b := ?_) (v := ?_) tab_is rfl rfl rfl rfl ?_ ?_) ?_
      rotate_left 2
      · assumption
      · rfl
    focus
      refine GOps.w1 rfl rfl rfl rfl (gop_call rfl Try.call152 rfl ?_ (g_next _ _ _ _ ?_ ?_ ?_)) ?_
      · intro _ h; cases h; done
      rotate_left 1
      · assumption
      · omega
    refine GOps.r rfl rfl rfl rfl (grd_move rfl rfl) ?_
    focus
      refine GOps.r rfl rfl rfl rfl (grd_extract (v := ?_) rfl rfl ?_) ?_
      rotate_left 1
      · simp only [List.getElem?_toArray, List.getElem?_cons_zero, List.getElem?_cons_succ]; rfl
    focus
      refine GOps.r rfl rfl rfl rfl (grd_extract (v := ?_) rfl rfl ?_) ?_
      rotate_left 1
      · simp only [List.getElem?_toArray, List.getElem?_cons_zero, List.getElem?_cons_succ]; rfl
    focus
      refine GOps.r rfl rfl rfl rfl (grd_extract (v := ?_) rfl rfl ?_) ?_
      rotate_left 1
      · simp only [List.getElem?_toArray, List.getElem?_cons_zero, List.getElem?_cons_succ]; rfl
    refine GOps.r rfl rfl rfl rfl (grd_assign rfl rfl) ?_
    refine GOps.r rfl rfl rfl rfl (grd_assign rfl rfl) ?_
    refine GOps.r rfl rfl rfl rfl (grd_assign rfl rfl) ?_
    refine GOps.nil ?_
    refine GWP.seq ?_
    refine GWP.seq ?_
    refine GWP.region ?_
    refine GOps.r rfl rfl rfl rfl (grd_move rfl rfl) ?_
    refine GOps.r rfl rfl rfl rfl (grd_eql rfl rfl rfl) ?_
    refine GOps.r rfl rfl rfl rfl (grd_move rfl rfl) ?_
    refine GOps.split rfl rfl (fun c2 => ?_) (fun c2 => ?_)
    simp only [beq_true, beq_false, Bool.not_true, Bool.not_false, Bool.not_eq_true', Bool.not_eq_false', decide_eq_true_eq, decide_eq_false_iff_not] at c2
    refine GOps.take rfl rfl ?_ ?_
    · exact beq_iff_eq.2 (decide_eq_true (by assumption))
    refine GOps.r rfl rfl rfl rfl (grd_move rfl rfl) ?_
    refine GOps.take rfl rfl ?_ ?_
    · exact beq_iff_eq.2 (decide_eq_true (by assumption))
    refine GOps.r rfl rfl rfl rfl (grd_move rfl rfl) ?_
    refine GOps.take rfl rfl ?_ ?_
    · exact beq_iff_eq.2 (decide_eq_true (by assumption))
    refine GOps.r rfl rfl rfl rfl (grd_gtr rfl rfl rfl) ?_
    refine GOps.r rfl rfl rfl rfl (grd_pick_t rfl rfl ?_ rfl) ?_
    · exact decide_eq_true (by assumption)
    refine GOps.nil ?_
    refine GWP.cond rfl (fun c3 => ?_) (fun c3 => ?_)
    simp only [beq_true, beq_false, Bool.not_true, Bool.not_false, Bool.not_eq_true', Bool.not_eq_false', decide_eq_true_eq, decide_eq_false_iff_not] at c3
    refine GWP.region ?_
    refine GOps.r rfl rfl rfl rfl (grd_assign rfl rfl) ?_
    refine GOps.nil ?_
    refine GWP.seq ?_
    refine GWP.seq ?_
    refine GWP.region ?_
    refine GOps.r rfl rfl rfl rfl (grd_move rfl rfl) ?_
    refine GOps.r rfl rfl rfl rfl (grd_neq rfl rfl rfl) ?_
    refine GOps.nil ?_
    refine GWP.cond_t rfl ?_ ?_
    · exact decide_eq_true (by omega)
    refine GWP.seq ?_
    refine GWP.region ?_
    refine GOps.r rfl rfl rfl rfl (grd_move rfl rfl) ?_
    refine GOps.r rfl rfl rfl rfl (grd_move rfl rfl) ?_
    refine GOps.w1 rfl rfl rfl rfl (gop_call rfl Try.call153 rfl ?_ (g_fail _ _ _ _ _ _ h ?_)) ?_
    · simp [Ctx.may]; done
    · omega
    refine GOps.nil ?_
    refine GWP.seq ?_
    refine GWP.region ?_
    refine GOps.r rfl rfl rfl rfl (grd_assign rfl rfl) ?_
    refine GOps.nil ?_
    refine GWP.ret ?_
    refine ⟨_, .one rfl, ?_⟩
    refine ⟨?_, ?_⟩
    rotate_left 1
    refine ⟨?_, ?_⟩
    rotate_left 1
    refine ⟨?_, ?_⟩
    · exact rg_bsk h _ _
    refine HExt.put ?_ ?_
    · exact HExt.refl _ _
    · exact .inl (by simp)
    simp only [beq_true, beq_false, Bool.not_true, Bool.not_false, Bool.not_eq_true', Bool.not_eq_false', decide_eq_true_eq, decide_eq_false_iff_not] at c3
    refine GWP.skip ?_
    refine GWP.seq ?_
    refine GWP.seq ?_
    refine GWP.region ?_
    refine GOps.r rfl rfl rfl rfl (grd_move rfl rfl) ?_
    refine GOps.r rfl rfl rfl rfl (grd_neq rfl rfl rfl) ?_
    refine GOps.nil ?_
    refine GWP.cond_f rfl ?_ ?_
    · exact decide_eq_false (by omega)
    refine GWP.skip ?_
    refine GWP.seq ?_
    refine GWP.region ?_
    refine GOps.r rfl rfl rfl rfl (grd_move rfl rfl) ?_
    refine GOps.r rfl rfl rfl rfl (grd_move rfl rfl) ?_
    refine GOps.r rfl rfl rfl rfl (grd_nil rfl rfl) ?_
    refine GOps.r rfl rfl rfl rfl (grd_fieldAddr tab_is rfl rfl rfl rfl rfl) ?_
    focus
      refine GOps.r rfl rfl rfl rfl (grd_load1 (b := ?_) (v := ?_) tab_is rfl rfl rfl rfl ?_ ?_) ?_
      rotate_left 2
      · assumption
      · rfl
    refine GOps.r rfl rfl rfl rfl (grd_move rfl rfl) ?_
    focus
      refine gops_bs rfl rfl rfl rfl (grd_slBS (l := ?_) (h := ?_) (m2 := ?_) (L := ?_) (M := ?_) tab_is rfl rfl rfl rfl ?_ ?_ ?_ ?_ ?_ ?_ ?_) ?_
      rotate_left 5
      · assumption
      · refine gbound_tmp rfl ?_; exact rfl
      · exact rfl
      · omega
      · omega
      · rfl
      · refine Eq.trans (List.take_of_length_le ?_) ?_; rotate_left 1; rfl; (simp; done)
    intro pc4 cc4 c4
    have c4n := BS.len c4
    refine GOps.r rfl rfl rfl rfl (grd_nil rfl rfl) ?_
    refine GOps.r rfl rfl rfl rfl (grd_fieldAddr tab_is rfl rfl rfl rfl rfl) ?_
    focus
      refine GOps.s rfl rfl rfl (gop_store1 (b := ?_) tab_is rfl rfl rfl rfl rfl rfl ?_ ?_ ?_ ?_) ?_
      rotate_left 1
      · assumption
      · rfl
      · exact Nat.le_of_ble_eq_true rfl
      · exact .inl (by simp)
    refine GOps.nil ?_
    refine GWP.seq ?_
    refine GWP.region ?_
    refine GOps.r rfl rfl rfl rfl (grd_move rfl rfl) ?_
    refine GOps.r rfl rfl rfl rfl (grd_assign rfl rfl) ?_
    refine GOps.nil ?_
    refine GWP.ret ?_
    refine ⟨_, .one rfl, ?_⟩
    refine ⟨?_, ?_⟩
    rotate_left 1
    refine ⟨?_, ?_⟩
    rotate_left 1
    refine ⟨?_, ?_⟩
    · exact rg_bsk h _ _
    refine HExt.put ?_ ?_
    · exact HExt.refl _ _
    · exact .inl (by simp)
    simp only [beq_true, beq_false, Bool.not_true, Bool.not_false, Bool.not_eq_true', Bool.not_eq_false', decide_eq_true_eq, decide_eq_false_iff_not] at c2
    refine GOps.no rfl ?_ rfl rfl ?_
    · exact beq_eq_false_iff_ne.2 (by rw [decide_eq_false (by assumption)]; decide)
    refine GOps.no rfl ?_ rfl rfl ?_
    · exact beq_eq_false_iff_ne.2 (by rw [decide_eq_false (by assumption)]; decide)
    refine GOps.no rfl ?_ rfl rfl ?_
    · exact beq_eq_false_iff_ne.2 (by rw [decide_eq_false (by assumption)]; decide)
    refine GOps.r rfl rfl rfl rfl (grd_pick_f rfl rfl ?_ rfl) ?_
    · exact decide_eq_false (by assumption)
    refine GOps.nil ?_
    refine GWP.cond_f rfl ?_ ?_
    · with_reducible rfl
    refine GWP.skip ?_
    refine GWP.seq ?_
    refine GWP.seq ?_
    refine GWP.region ?_
    refine GOps.r rfl rfl rfl rfl (grd_move rfl rfl) ?_
    refine GOps.r rfl rfl rfl rfl (grd_neq rfl rfl rfl) ?_
    refine GOps.nil ?_
    refine GWP.cond_t rfl ?_ ?_
    · exact decide_eq_true (by assumption)
    refine GWP.seq ?_
    refine GWP.region ?_
    refine GOps.r rfl rfl rfl rfl (grd_move rfl rfl) ?_
    refine GOps.r rfl rfl rfl rfl (grd_move rfl rfl) ?_
    refine GOps.w1 rfl rfl rfl rfl (gop_call rfl Try.call153 rfl ?_ (g_fail _ _ _ _ _ _ h ?_)) ?_
    · simp [Ctx.may]; done
    · omega
    refine GOps.nil ?_
    refine GWP.seq ?_
    refine GWP.region ?_
    refine GOps.r rfl rfl rfl rfl (grd_assign rfl rfl) ?_
    refine GOps.nil ?_
    refine GWP.ret ?_
    refine ⟨_, .one rfl, ?_⟩
    refine ⟨?_, ?_⟩
    rotate_left 1
    refine ⟨?_, ?_⟩
    rotate_left 1
    refine ⟨?_, ?_⟩
    · exact rg_bsk h _ _
    refine HExt.put ?_ ?_
    · exact HExt.refl _ _
    · exact .inl (by simp)
  · rw [num1 c1]; rfl
  · exact ⟨_, _, by rw [num1 c1]; exact h⟩
  · rw [num3 h0 c1 c2 c3]; rfl
  · exact ⟨_, _, by rw [num3 h0 c1 c2 c3]; exact rg_put (s' := ⟨s.l, 5⟩) h hb rfl hl rfl⟩
  · rw [num4 c1 c2 c3]
  · exact ⟨_, _, by rw [num4 c1 c2 c3]; exact rg_put (s' := ⟨s.l.drop (next s.l).2.1, 0⟩) h c4 (by simp) (by simp only [List.length_drop]; omega) (by simp only; omega)⟩
  · rw [num2 c1 c2]; rfl
  · exact ⟨_, _, by rw [num2 c1 c2]; exact rg_put (s' := ⟨s.l, (next s.l).2.2⟩) h hb rfl hl rfl⟩
theorem fin1 {s : RdS} (h : (s.e : Int) ≠ 0) : s.fin = s.e := if_pos (by omega)
theorem fin2 {s : RdS} (h : ¬ (s.e : Int) ≠ 0) (h2 : 0 < (s.l.length : Int)) : s.fin = 5 := by rw [RdS.fin, if_neg (by omega), if_pos (by omega)]
theorem fin3 {s : RdS} (h : ¬ (s.e : Int) ≠ 0) (h2 : ¬ 0 < (s.l.length : Int)) : s.fin = 0 := by rw [RdS.fin, if_neg (by omega), if_neg (by omega)]
set_option maxHeartbeats 4000000 in
set_option maxRecDepth 100000 in
set_option linter.unusedSimpArgs false in
theorem g_end (H : Hp) (g : Nat) (p : Option Addr) (c : Nat) (s : RdS) (h : RG 199 H g p c s) : GCalls Try.prog 67 [.pointer (some ⟨g, 0, none⟩)] [] H fun v H' => v = .int .i64 (s.fin : Int) ∧ H' = H := by
  have hg := h.hg
  unfold rdBlk at hg
  refine GCalls.body tab_is Try.func67 rfl Try.results67 Try.ntmps67 (by simp) ?_ ?_
  · first | (intro _ h; cases h; done) | (simp; done) | (simp; omega) | (intro i hi; simp at hi; rcases hi with rfl | rfl <;> omega) | (intro i hi; simp at hi; rcases hi with rfl | rfl | rfl <;> omega)
  focus
    refine GWP.seq ?_
    refine GWP.region ?_
    refine GOps.r rfl rfl rfl rfl (grd_assign rfl rfl) ?_
    refine GOps.nil ?_
    refine GWP.seq ?_
    refine GWP.seq ?_
    refine GWP.region ?_
    refine GOps.r rfl rfl rfl rfl (grd_move rfl rfl) ?_
    refine GOps.w1 rfl rfl rfl rfl (gop_call rfl Try.call124 rfl ?_ (g_failed H g p c s h)) ?_
    · intro _ h; cases h; done
    refine GOps.r rfl rfl rfl rfl (grd_assign rfl rfl) ?_
    refine GOps.nil ?_
    refine GWP.seq ?_
    refine GWP.region ?_
    refine GOps.r rfl rfl rfl rfl (grd_move rfl rfl) ?_
    refine GOps.r rfl rfl rfl rfl (grd_neq rfl rfl rfl) ?_
    refine GOps.nil ?_
    refine GWP.cond rfl (fun d1 => ?_) (fun d1 => ?_)
    simp only [beq_true, beq_false, Bool.not_true, Bool.not_false, Bool.not_eq_true', Bool.not_eq_false', decide_eq_true_eq, decide_eq_false_iff_not] at d1
    refine GWP.seq ?_
    refine GWP.region ?_
    refine GOps.r rfl rfl rfl rfl (grd_move rfl rfl) ?_
    refine GOps.r rfl rfl rfl rfl (grd_assign rfl rfl) ?_
    refine GOps.nil ?_
    refine GWP.ret ?_
    refine ⟨_, .one rfl, ?_⟩
    refine ⟨?_, ?_⟩
    rotate_left 1
    · rfl
    simp only [beq_true, beq_false, Bool.not_true, Bool.not_false, Bool.not_eq_true', Bool.not_eq_false', decide_eq_true_eq, decide_eq_false_iff_not] at d1
    refine GWP.skip ?_
    refine GWP.seq ?_
    refine GWP.seq ?_
    refine GWP.region ?_
    refine GOps.r rfl rfl rfl rfl (grd_move rfl rfl) ?_
    refine GOps.r rfl rfl rfl rfl (grd_nil rfl rfl) ?_
    refine GOps.r rfl rfl rfl rfl (grd_fieldAddr tab_is rfl rfl rfl rfl rfl) ?_
    focus
      refine GOps.r rfl rfl rfl rfl (grd_load1 (b := ?_) (v := ?_) tab_is rfl rfl rfl rfl ?_ ?_) ?_
      rotate_left 2
      · assumption
      · rfl
    refine GOps.r rfl rfl rfl rfl (grd_len tab_is rfl rfl rfl rfl rfl) ?_
    refine GOps.r rfl rfl rfl rfl (grd_gtr rfl rfl rfl) ?_
    refine GOps.nil ?_
    refine GWP.cond rfl (fun d2 => ?_) (fun d2 => ?_)
    simp only [beq_true, beq_false, Bool.not_true, Bool.not_false, Bool.not_eq_true', Bool.not_eq_false', decide_eq_true_eq, decide_eq_false_iff_not] at d2
    refine GWP.seq ?_
    refine GWP.region ?_
    refine GOps.r rfl rfl rfl rfl (grd_assign rfl rfl) ?_
    refine GOps.nil ?_
    refine GWP.ret ?_
    refine ⟨_, .one rfl, ?_⟩
    refine ⟨?_, ?_⟩
    rotate_left 1
    · rfl
    simp only [beq_true, beq_false, Bool.not_true, Bool.not_false, Bool.not_eq_true', Bool.not_eq_false', decide_eq_true_eq, decide_eq_false_iff_not] at d2
    refine GWP.skip ?_
    refine GWP.seq ?_
    refine GWP.region ?_
    refine GOps.r rfl rfl rfl rfl (grd_assign rfl rfl) ?_
    refine GOps.nil ?_
    refine GWP.ret ?_
    refine ⟨_, .one rfl, ?_⟩
    refine ⟨?_, ?_⟩
    rotate_left 1
    · rfl
  · rw [fin1 d1]
  · rw [fin2 d1 d2]; rfl
  · rw [fin3 d1 d2]; rfl
theorem number_le' (s : RdS) (m : Nat) : (s.number m).1 ≤ m := by
  unfold RdS.number
  split
  · exact Nat.zero_le _
  · split
    · exact Nat.zero_le _
    · split
      · exact Nat.zero_le _
      · simp only; omega
set_option maxHeartbeats 4000000 in
set_option maxRecDepth 100000 in
set_option linter.unusedSimpArgs false in
theorem g_rnext (H : Hp) (p : Option Addr) (n c : Nat) (L : List UInt8) (hb : BS H (.slice p n c) L) (hn : n ≤ 9223372036854775000) : GCalls Try.prog 154 [.slice p n c] [] H fun v H' => v = .tuple #[.int .u64 ((next L).1 : Int), .int .i64 ((next L).2.1 : Int), .int .i64 ((next L).2.2 : Int)] ∧ H' = H := by
  refine GCalls.plain1 hb (fun _ => .tuple (.cons (.int _ _) (.cons (.int _ _) (.cons (.int _ _) .nil)))) fun A c' w h1 h2 h3 h4 h5 => ?_
  refine (refnext_any A n c' _ L w h1 hn h5).mono fun e w' ⟨e1, e2⟩ => ⟨e1, ?_⟩
  subst e2
  exact Below.refl _ _
set_option maxHeartbeats 4000000 in
set_option maxRecDepth 100000 in
set_option linter.unusedSimpArgs false in
theorem g_rnumber (H : Hp) (g : Nat) (p : Option Addr) (c : Nat) (s : RdS) (most : Int) (h0 : 0 ≤ most) (h : RG 119 H g p c s) : GCalls Try.prog 126 [.pointer (some ⟨g, 0, none⟩), .int .u64 most] [g] H fun v H' => v = .int .u64 ((s.number most.toNat).1 : Int) ∧ (∃ p' c', RG 119 H' g p' c' (s.number most.toNat).2) ∧ BSk H H' ∧ HExt [g] H H' := by
  have hg := h.hg
  have hb := h.hb
  have hl := h.hl
  unfold rdBlk at hg
  have hlt := Hp.at_lt hg
  have hsz := next_size s.l
  refine GCalls.body tab_is Try.func126 rfl Try.results126 Try.ntmps126 (by simp) ?_ ?_
  · first | (intro _ h; cases h; done) | (simp; done) | (simp; omega) | (intro i hi; simp at hi; rcases hi with rfl | rfl <;> omega) | (intro i hi; simp at hi; rcases hi with rfl | rfl | rfl <;> omega)
  focus
    refine GWP.seq ?_
    refine GWP.region ?_
    refine GOps.r rfl rfl rfl rfl (grd_assign rfl rfl) ?_
    refine GOps.nil ?_
    refine GWP.seq ?_
    refine GWP.seq ?_
    refine GWP.region ?_
    refine GOps.r rfl rfl rfl rfl (grd_move rfl rfl) ?_
    refine GOps.r rfl rfl rfl rfl (grd_nil rfl rfl) ?_
    refine GOps.r rfl rfl rfl rfl (grd_fieldAddr tab_is rfl rfl rfl rfl rfl) ?_
    focus
      refine GOps.r rfl rfl rfl rfl (grd_load1 (b := ?_) (v := ?_) tab_is rfl rfl rfl rfl ?_ ?_) ?_
      rotate_left 2
      · assumption
      · rfl
    refine GOps.r rfl rfl rfl rfl (grd_neq rfl rfl rfl) ?_
    refine GOps.nil ?_
    refine GWP.cond rfl (fun f1 => ?_) (fun f1 => ?_)
    simp only [beq_true, beq_false, Bool.not_true, Bool.not_false, Bool.not_eq_true', Bool.not_eq_false', decide_eq_true_eq, decide_eq_false_iff_not] at f1
    refine GWP.seq ?_
    refine GWP.region ?_
    refine GOps.r rfl rfl rfl rfl (grd_assign rfl rfl) ?_
    refine GOps.nil ?_
    refine GWP.ret ?_
    refine ⟨_, .one rfl, ?_⟩
    refine ⟨?_, ?_⟩
    rotate_left 1
    refine ⟨?_, ?_⟩
    rotate_left 1
    refine ⟨?_, ?_⟩
    · exact BSk.refl _
    · exact HExt.refl _ _
    simp only [beq_true, beq_false, Bool.not_true, Bool.not_false, Bool.not_eq_true', Bool.not_eq_false', decide_eq_true_eq, decide_eq_false_iff_not] at f1
    refine GWP.skip ?_
    refine GWP.seq ?_
    refine GWP.region ?_
    refine GOps.r rfl rfl rfl rfl (grd_move rfl rfl) ?_
    refine GOps.r rfl rfl rfl rfl (grd_nil rfl rfl) ?_
    refine GOps.r rfl rfl rfl rfl (grd_fieldAddr tab_is rfl rfl rfl rfl rfl) ?_
    focus
      refine GOps.r rfl rfl rfl rfl (grd_load1 (b := ?_) (v := ?_) tab_is rfl rfl rfl rfl ?_ ?_) ?_
      rotate_left 2
      · assumption
      · rfl
    focus
      refine GOps.w1 rfl rfl rfl rfl (gop_call rfl Try.call154 rfl ?_ (g_rnext _ _ _ _ ?_ ?_ ?_)) ?_
      · intro _ h; cases h; done
      rotate_left 1
      · assumption
      · omega
    refine GOps.r rfl rfl rfl rfl (grd_move rfl rfl) ?_
    focus
      refine GOps.r rfl rfl rfl rfl (grd_extract (v := ?_) rfl rfl ?_) ?_
      rotate_left 1
      · simp only [List.getElem?_toArray, List.getElem?_cons_zero, List.getElem?_cons_succ]; rfl
    focus
      refine GOps.r rfl rfl rfl rfl (grd_extract (v := ?_) rfl rfl ?_) ?_
      rotate_left 1
      · simp only [List.getElem?_toArray, List.getElem?_cons_zero, List.getElem?_cons_succ]; rfl
    focus
      refine GOps.r rfl rfl rfl rfl (grd_extract (v := ?_) rfl rfl ?_) ?_
      rotate_left 1
      · simp only [List.getElem?_toArray, List.getElem?_cons_zero, List.getElem?_cons_succ]; rfl
    refine GOps.r rfl rfl rfl rfl (grd_assign rfl rfl) ?_
    refine GOps.r rfl rfl rfl rfl (grd_assign rfl rfl) ?_
    refine GOps.r rfl rfl rfl rfl (grd_assign rfl rfl) ?_
    refine GOps.nil ?_
    refine GWP.seq ?_
    refine GWP.seq ?_
    refine GWP.region ?_
    refine GOps.r rfl rfl rfl rfl (grd_move rfl rfl) ?_
    refine GOps.r rfl rfl rfl rfl (grd_eql rfl rfl rfl) ?_
    refine GOps.r rfl rfl rfl rfl (grd_move rfl rfl) ?_
    refine GOps.split rfl rfl (fun f2 => ?_) (fun f2 => ?_)
    simp only [beq_true, beq_false, Bool.not_true, Bool.not_false, Bool.not_eq_true', Bool.not_eq_false', decide_eq_true_eq, decide_eq_false_iff_not] at f2
    refine GOps.take rfl rfl ?_ ?_
    · exact beq_iff_eq.2 (decide_eq_true (by assumption))
    refine GOps.r rfl rfl rfl rfl (grd_move rfl rfl) ?_
    refine GOps.take rfl rfl ?_ ?_
    · exact beq_iff_eq.2 (decide_eq_true (by assumption))
    refine GOps.r rfl rfl rfl rfl (grd_move rfl rfl) ?_
    refine GOps.take rfl rfl ?_ ?_
    · exact beq_iff_eq.2 (decide_eq_true (by assumption))
    refine GOps.r rfl rfl rfl rfl (grd_gtr rfl rfl rfl) ?_
    refine GOps.r rfl rfl rfl rfl (grd_pick_t rfl rfl ?_ rfl) ?_
    · exact decide_eq_true (by assumption)
    refine GOps.nil ?_
    refine GWP.cond rfl (fun f3 => ?_) (fun f3 => ?_)
    simp only [beq_true, beq_false, Bool.not_true, Bool.not_false, Bool.not_eq_true', Bool.not_eq_false', decide_eq_true_eq, decide_eq_false_iff_not] at f3
    refine GWP.region ?_
    refine GOps.r rfl rfl rfl rfl (grd_assign rfl rfl) ?_
    refine GOps.nil ?_
    refine GWP.seq ?_
    refine GWP.seq ?_
    refine GWP.region ?_
    refine GOps.r rfl rfl rfl rfl (grd_move rfl rfl) ?_
    refine GOps.r rfl rfl rfl rfl (grd_neq rfl rfl rfl) ?_
    refine GOps.nil ?_
    refine GWP.cond_t rfl ?_ ?_
    · exact decide_eq_true (by omega)
    refine GWP.seq ?_
    refine GWP.region ?_
    refine GOps.r rfl rfl rfl rfl (grd_move rfl rfl) ?_
    refine GOps.r rfl rfl rfl rfl (grd_move rfl rfl) ?_
    refine GOps.r rfl rfl rfl rfl (grd_nil rfl rfl) ?_
    refine GOps.r rfl rfl rfl rfl (grd_fieldAddr tab_is rfl rfl rfl rfl rfl) ?_
    focus
      refine GOps.s rfl rfl rfl (gop_store1 (b := ?_) tab_is rfl rfl rfl rfl rfl rfl ?_ ?_ ?_ ?_) ?_
      rotate_left 1
      · assumption
      · rfl
      · exact Nat.le_of_ble_eq_true rfl
      · exact .inl (by simp)
    refine GOps.nil ?_
    refine GWP.seq ?_
    refine GWP.region ?_
    refine GOps.r rfl rfl rfl rfl (grd_assign rfl rfl) ?_
    refine GOps.nil ?_
    refine GWP.ret ?_
    refine ⟨_, .one rfl, ?_⟩
    refine ⟨?_, ?_⟩
    rotate_left 1
    refine ⟨?_, ?_⟩
    rotate_left 1
    refine ⟨?_, ?_⟩
    · exact rg_bsk h _ _
    refine HExt.put ?_ ?_
    · exact HExt.refl _ _
    · exact .inl (by simp)
    simp only [beq_true, beq_false, Bool.not_true, Bool.not_false, Bool.not_eq_true', Bool.not_eq_false', decide_eq_true_eq, decide_eq_false_iff_not] at f3
    refine GWP.skip ?_
    refine GWP.seq ?_
    refine GWP.seq ?_
    refine GWP.region ?_
    refine GOps.r rfl rfl rfl rfl (grd_move rfl rfl) ?_
    refine GOps.r rfl rfl rfl rfl (grd_neq rfl rfl rfl) ?_
    refine GOps.nil ?_
    refine GWP.cond_f rfl ?_ ?_
    · exact decide_eq_false (by omega)
    refine GWP.skip ?_
    refine GWP.seq ?_
    refine GWP.region ?_
    refine GOps.r rfl rfl rfl rfl (grd_move rfl rfl) ?_
    refine GOps.r rfl rfl rfl rfl (grd_move rfl rfl) ?_
    refine GOps.r rfl rfl rfl rfl (grd_nil rfl rfl) ?_
    refine GOps.r rfl rfl rfl rfl (grd_fieldAddr tab_is rfl rfl rfl rfl rfl) ?_
    focus
      refine GOps.r rfl rfl rfl rfl (grd_load1 (b := ?_) (v := ?_) tab_is rfl rfl rfl rfl ?_ ?_) ?_
      rotate_left 2
      · assumption
      · rfl
    refine GOps.r rfl rfl rfl rfl (grd_move rfl rfl) ?_
    focus
      refine gops_bs rfl rfl rfl rfl (grd_slBS (l := ?_) (h := ?_) (m2 := ?_) (L := ?_) (M := ?_) tab_is rfl rfl rfl rfl ?_ ?_ ?_ ?_ ?_ ?_ ?_) ?_
      rotate_left 5
      · assumption
      · refine gbound_tmp rfl ?_; exact rfl
      · exact rfl
      · omega
      · omega
      · rfl
      · refine Eq.trans (List.take_of_length_le ?_) ?_; rotate_left 1; rfl; (simp; done)
    intro pf4 cf4 f4
    have f4n := BS.len f4
    refine GOps.r rfl rfl rfl rfl (grd_nil rfl rfl) ?_
    refine GOps.r rfl rfl rfl rfl (grd_fieldAddr tab_is rfl rfl rfl rfl rfl) ?_
    focus
      refine GOps.s rfl rfl rfl (gop_store1 (b := ?_) tab_is rfl rfl rfl rfl rfl rfl ?_ ?_ ?_ ?_) ?_
      rotate_left 1
      · assumption
      · rfl
      · exact Nat.le_of_ble_eq_true rfl
      · exact .inl (by simp)
    refine GOps.nil ?_
    refine GWP.seq ?_
    refine GWP.region ?_
    refine GOps.r rfl rfl rfl rfl (grd_move rfl rfl) ?_
    refine GOps.r rfl rfl rfl rfl (grd_assign rfl rfl) ?_
    refine GOps.nil ?_
    refine GWP.ret ?_
    refine ⟨_, .one rfl, ?_⟩
    refine ⟨?_, ?_⟩
    rotate_left 1
    refine ⟨?_, ?_⟩
    rotate_left 1
    refine ⟨?_, ?_⟩
    · exact rg_bsk h _ _
    refine HExt.put ?_ ?_
    · exact HExt.refl _ _
    · exact .inl (by simp)
    simp only [beq_true, beq_false, Bool.not_true, Bool.not_false, Bool.not_eq_true', Bool.not_eq_false', decide_eq_true_eq, decide_eq_false_iff_not] at f2
    refine GOps.no rfl ?_ rfl rfl ?_
    · exact beq_eq_false_iff_ne.2 (by rw [decide_eq_false (by assumption)]; decide)
    refine GOps.no rfl ?_ rfl rfl ?_
    · exact beq_eq_false_iff_ne.2 (by rw [decide_eq_false (by assumption)]; decide)
    refine GOps.no rfl ?_ rfl rfl ?_
    · exact beq_eq_false_iff_ne.2 (by rw [decide_eq_false (by assumption)]; decide)
    refine GOps.r rfl rfl rfl rfl (grd_pick_f rfl rfl ?_ rfl) ?_
    · exact decide_eq_false (by assumption)
    refine GOps.nil ?_
    refine GWP.cond_f rfl ?_ ?_
    · with_reducible rfl
    refine GWP.skip ?_
    refine GWP.seq ?_
    refine GWP.seq ?_
    refine GWP.region ?_
    refine GOps.r rfl rfl rfl rfl (grd_move rfl rfl) ?_
    refine GOps.r rfl rfl rfl rfl (grd_neq rfl rfl rfl) ?_
    refine GOps.nil ?_
    refine GWP.cond_t rfl ?_ ?_
    · exact decide_eq_true (by assumption)
    refine GWP.seq ?_
    refine GWP.region ?_
    refine GOps.r rfl rfl rfl rfl (grd_move rfl rfl) ?_
    refine GOps.r rfl rfl rfl rfl (grd_move rfl rfl) ?_
    refine GOps.r rfl rfl rfl rfl (grd_nil rfl rfl) ?_
    refine GOps.r rfl rfl rfl rfl (grd_fieldAddr tab_is rfl rfl rfl rfl rfl) ?_
    focus
      refine GOps.s rfl rfl rfl (gop_store1 (b := ?_) tab_is rfl rfl rfl rfl rfl rfl ?_ ?_ ?_ ?_) ?_
      rotate_left 1
      · assumption
      · rfl
      · exact Nat.le_of_ble_eq_true rfl
      · exact .inl (by simp)
    refine GOps.nil ?_
    refine GWP.seq ?_
    refine GWP.region ?_
    refine GOps.r rfl rfl rfl rfl (grd_assign rfl rfl) ?_
    refine GOps.nil ?_
    refine GWP.ret ?_
    refine ⟨_, .one rfl, ?_⟩
    refine ⟨?_, ?_⟩
    rotate_left 1
    refine ⟨?_, ?_⟩
    rotate_left 1
    refine ⟨?_, ?_⟩
    · exact rg_bsk h _ _
    refine HExt.put ?_ ?_
    · exact HExt.refl _ _
    · exact .inl (by simp)
  · rw [num1 f1]; rfl
  · exact ⟨_, _, by rw [num1 f1]; exact h⟩
  · rw [num3 h0 f1 f2 f3]; rfl
  · exact ⟨_, _, by rw [num3 h0 f1 f2 f3]; exact rg_put (s' := ⟨s.l, 5⟩) h hb rfl hl rfl⟩
  · rw [num4 f1 f2 f3]
  · exact ⟨_, _, by rw [num4 f1 f2 f3]; exact rg_put (s' := ⟨s.l.drop (next s.l).2.1, 0⟩) h f4 (by simp) (by simp only [List.length_drop]; omega) (by simp only; omega)⟩
  · rw [num2 f1 f2]; rfl
  · exact ⟨_, _, by rw [num2 f1 f2]; exact rg_put (s' := ⟨s.l, (next s.l).2.2⟩) h hb rfl hl rfl⟩
set_option maxHeartbeats 4000000 in
set_option maxRecDepth 100000 in
set_option linter.unusedSimpArgs false in
theorem g_clone (H : Hp) (p : Option Addr) (n c : Nat) (L : List UInt8) (hb : BS H (.slice p n c) L) (hn : n ≤ 140737488355328) : GCalls Try.prog 125 [.slice p n c] [] H fun v H' => (∃ p' n' c', v = .slice p' n' c' ∧ BS H' (.slice p' n' c') L) ∧ HExt [] H H' := by
  have hl := hb.len
  rcases Nat.eq_zero_or_pos n with h0 | h0
  · subst h0
    obtain rfl : L = [] := List.eq_nil_of_length_eq_zero hl
    refine GCalls.body tab_is Try.func125 rfl Try.results125 Try.ntmps125 (by simp) ?_ ?_
    · first | (intro _ h; cases h; done) | (simp; done) | (simp; omega) | (intro i hi; simp at hi; rcases hi with rfl | rfl <;> omega) | (intro i hi; simp at hi; rcases hi with rfl | rfl | rfl <;> omega)
    focus
      refine GWP.seq ?_
      refine GWP.region ?_
      refine GOps.r rfl rfl rfl rfl (grd_assign rfl rfl) ?_
      refine GOps.nil ?_
      refine GWP.seq ?_
      refine GWP.seq ?_
      refine GWP.region ?_
      refine GOps.r rfl rfl rfl rfl (grd_move rfl rfl) ?_
      refine GOps.r rfl rfl rfl rfl (grd_sleql tab_is rfl rfl rfl rfl rfl) ?_
      refine GOps.nil ?_
      refine GWP.cond rfl (fun i1 => ?_) (fun i1 => ?_)
      simp at i1
      refine GWP.seq ?_
      refine GWP.region ?_
      refine GOps.r rfl rfl rfl rfl (grd_assign rfl rfl) ?_
      refine GOps.nil ?_
      refine GWP.ret ?_
      refine ⟨_, .one rfl, ?_⟩
      refine ⟨?_, ?_⟩
      · exact ⟨_, _, _, rfl, BS.none⟩
      · exact HExt.refl _ _
      simp at i1
      refine GWP.skip ?_
      refine GWP.seq ?_
      refine GWP.region ?_
      focus
        refine GOps.w1 rfl rfl rfl rfl (gop_lit (id := ?_) (cs := ?_) ?_ tab_is rfl rfl rfl ?_ ?_ rfl ?_ ?_) ?_
        rotate_left 2
        · rfl
        · decide
        · decide
        · simp [gfill, gsets, Value.cells]; rfl
        · rfl
      refine GOps.r rfl rfl rfl rfl (grd_move rfl rfl) ?_
      focus
        refine GOps.w1 rfl rfl rfl rfl (gop_zeroB (L := ?_) (M := ?_) tab_is rfl rfl rfl rfl ?_ ?_ (gsrc_bs rfl rfl rfl ?_) ?_ ?_ ?_) ?_
        rotate_left 2
        refine bs_emptyE (b := ?_) ?_ ?_ ?_ ?_ ?_
        rotate_left 1
        · exact Hp.at_push_eq
        · rfl
        · decide
        · rfl
        · rfl
        · omega
        focus
          refine BS.ext (by assumption) ?_
          refine HExt.push ?_
          · exact HExt.refl _ _
        · exact BS.len (by assumption)
        · decide
        · decide
      refine GOps.r rfl rfl rfl rfl (grd_assign rfl rfl) ?_
      refine GOps.nil ?_
      refine GWP.ret ?_
      refine ⟨_, .one rfl, ?_⟩
      refine ⟨?_, ?_⟩
      rotate_left 1
      refine HExt.push ?_
      · exact HExt.refl _ _
    exact ⟨_, _, _, rfl, bs_empty (b := ⟨_, 1, _, _⟩) Hp.at_push_eq rfl (Nat.zero_le _) rfl⟩
  ·
    refine GCalls.body tab_is Try.func125 rfl Try.results125 Try.ntmps125 (by simp) ?_ ?_
    · first | (intro _ h; cases h; done) | (simp; done) | (simp; omega) | (intro i hi; simp at hi; rcases hi with rfl | rfl <;> omega) | (intro i hi; simp at hi; rcases hi with rfl | rfl | rfl <;> omega)
    focus
      refine GWP.seq ?_
      refine GWP.region ?_
      refine GOps.r rfl rfl rfl rfl (grd_assign rfl rfl) ?_
      refine GOps.nil ?_
      refine GWP.seq ?_
      refine GWP.seq ?_
      refine GWP.region ?_
      refine GOps.r rfl rfl rfl rfl (grd_move rfl rfl) ?_
      refine GOps.r rfl rfl rfl rfl (grd_sleql tab_is rfl rfl rfl rfl rfl) ?_
      refine GOps.nil ?_
      refine GWP.cond rfl (fun j1 => ?_) (fun j1 => ?_)
      simp at j1
      refine GWP.seq ?_
      refine GWP.region ?_
      refine GOps.r rfl rfl rfl rfl (grd_assign rfl rfl) ?_
      refine GOps.nil ?_
      refine GWP.ret ?_
      refine ⟨_, .one rfl, ?_⟩
      refine ⟨?_, ?_⟩
      rotate_left 1
      · exact HExt.refl _ _
      simp at j1
      refine GWP.skip ?_
      refine GWP.seq ?_
      refine GWP.region ?_
      focus
        refine GOps.w1 rfl rfl rfl rfl (gop_lit (id := ?_) (cs := ?_) ?_ tab_is rfl rfl rfl ?_ ?_ rfl ?_ ?_) ?_
        rotate_left 2
        · rfl
        · decide
        · decide
        · simp [gfill, gsets, Value.cells]; rfl
        · rfl
      refine GOps.r rfl rfl rfl rfl (grd_move rfl rfl) ?_
      focus
        refine GOps.w1 rfl rfl rfl rfl (gop_fullB (id := ?_) (L := ?_) (M := ?_) (K := ?_) ?_ tab_is rfl rfl rfl rfl ?_ ?_ ?_ (gsrc_bs rfl rfl rfl ?_) ?_ ?_ ?_ ?_) ?_
        rotate_left 4
        · simp; rfl
        refine bs_emptyE (b := ?_) ?_ ?_ ?_ ?_ ?_
        rotate_left 1
        · exact Hp.at_push_eq
        · rfl
        · decide
        · rfl
        · rfl
        · decide
        · omega
        focus
          refine BS.ext (by assumption) ?_
          refine HExt.push ?_
          · exact HExt.refl _ _
        · exact BS.len (by assumption)
        · simp only [List.nil_append]; rfl
        · omega
        · omega
      refine GOps.r rfl rfl rfl rfl (grd_assign rfl rfl) ?_
      refine GOps.nil ?_
      refine GWP.ret ?_
      refine ⟨_, .one rfl, ?_⟩
      refine ⟨?_, ?_⟩
      rotate_left 1
      refine HExt.push ?_
      refine HExt.push ?_
      · exact HExt.refl _ _
    · subst j1
      cases hb
      omega
    · exact ⟨_, _, _, rfl, bs_push (by simp) (by omega)⟩
set_option maxHeartbeats 4000000 in
set_option maxRecDepth 100000 in
set_option linter.unusedSimpArgs false in
theorem g_vopen (H : Hp) (p : Option Addr) (n c : Nat) (L : List UInt8) (hb : BS H (.slice p n c) L) (hn : n ≤ 140737488355328) : GCalls Try.prog 63 [.slice p n c] [] H fun v H' => (∃ g p' c', v = .pointer (some ⟨g, 0, none⟩) ∧ H.length ≤ g ∧ RG 199 H' g p' c' ⟨L, 0⟩) ∧ HExt [] H H' := by
  have hl := hb.len
  refine GCalls.body tab_is Try.func63 rfl Try.results63 Try.ntmps63 (by simp) ?_ ?_
  · first | (intro _ h; cases h; done) | (simp; done) | (simp; omega) | (intro i hi; simp at hi; rcases hi with rfl | rfl <;> omega) | (intro i hi; simp at hi; rcases hi with rfl | rfl | rfl <;> omega)
  focus
    refine GWP.seq ?_
    refine GWP.region ?_
    refine GOps.r rfl rfl rfl rfl (grd_assign rfl rfl) ?_
    refine GOps.nil ?_
    refine GWP.seq ?_
    refine GWP.region ?_
    refine GOps.r rfl rfl rfl rfl (grd_move rfl rfl) ?_
    focus
      refine GOps.w rfl rfl rfl rfl (gop_call rfl Try.call125 rfl ?_ (g_clone _ _ _ _ ?_ ?_ ?_)) ?_
      · intro _ h; cases h; done
      rotate_left 1
      · assumption
      · omega
    rintro _ Hxk5 ⟨⟨pk1, nk2, ck3, rfl, bk4⟩, xk5⟩
    have xk5l := HExt.len xk5; try simp at xk5l
    focus
      refine GOps.r rfl rfl rfl rfl (grd_build (cs := ?_) tab_is rfl rfl rfl ?_ rfl ?_) ?_
      rotate_left 1
      · decide
      · simp [gfill, gsets, Value.cells]; rfl
    focus
      refine GOps.w1 rfl rfl rfl rfl (gop_box' (id := ?_) ?_ rfl rfl rfl) ?_
      rotate_left 1
      · rfl
    refine GOps.r rfl rfl rfl rfl (grd_assign rfl rfl) ?_
    refine GOps.nil ?_
    refine GWP.ret ?_
    refine ⟨_, .one rfl, ?_⟩
    refine ⟨?_, ?_⟩
    rotate_left 1
    refine HExt.push ?_
    · assumption
  have e := bk4.len
  subst e
  exact ⟨_, pk1, ck3, rfl, xk5l, ⟨Hp.at_push_eq, bk4.ext (HExt.refl _ _).push, by simp only; omega⟩⟩
end Go.Proofs.Ytcbngjpihcemiaa

/- Plain: the sum of thirty-two bits, bit by bit and half a byte at a time. No program in sight. -/
namespace Go.Proofs.Ytcbngjpihcemiaa

def CP : Nat := 3945912366
/-- One bit taken. -/
def zN (n : Nat) : Nat := n / 2 ^^^ (if n % 2 = 1 then CP else 0)
theorem xor_half (a b : Nat) : (a ^^^ b) / 2 = a / 2 ^^^ b / 2 := by
  have := Nat.shiftRight_xor_distrib (a := a) (b := b) (i := 1)
  simpa [Nat.shiftRight_eq_div_pow] using this
theorem xor_odd (a b : Nat) : (a ^^^ b) % 2 = (a % 2 + b % 2) % 2 := by
  have h := Nat.xor_mod_two_pow (a := a) (b := b) (n := 1)
  rw [Nat.pow_one] at h
  rw [h]
  rcases Nat.mod_two_eq_zero_or_one a with ha | ha <;> rcases Nat.mod_two_eq_zero_or_one b with hb | hb <;> rw [ha, hb] <;> rfl
theorem z_xor (a b : Nat) : zN (a ^^^ b) = zN a ^^^ zN b := by
  unfold zN
  rw [xor_half, xor_odd]
  generalize CP = P
  rcases Nat.mod_two_eq_zero_or_one a with ha | ha <;> rcases Nat.mod_two_eq_zero_or_one b with hb | hb <;> rw [ha, hb] <;> simp only [Nat.reduceAdd, Nat.reduceMod, if_true, reduceIte, Nat.xor_zero, Nat.zero_ne_one]
  · rw [Nat.xor_assoc]
  · rw [Nat.xor_assoc, Nat.xor_comm (b / 2) P, ← Nat.xor_assoc]
  · rw [Nat.xor_assoc (a / 2) P, ← Nat.xor_assoc P, Nat.xor_comm P (b / 2), Nat.xor_assoc (b / 2), Nat.xor_self, Nat.xor_zero]
theorem z_lt (n : Nat) (h : n < 2 ^ 32) : zN n < 2 ^ 32 := by
  unfold zN
  refine Nat.xor_lt_two_pow (by omega) ?_
  split
  · unfold CP; omega
  · omega
theorem xor_eq_zero {a b : Nat} (h : a ^^^ b = 0) : a = b := by
  have : a ^^^ b ^^^ b = 0 ^^^ b := by rw [h]
  rw [Nat.xor_assoc, Nat.xor_self, Nat.xor_zero, Nat.zero_xor] at this
  exact this
theorem z_zero (n : Nat) (hn : n < 2 ^ 32) (h : zN n = 0) : n = 0 := by
  unfold zN at h
  split at h
  · have := xor_eq_zero h
    unfold CP at this
    omega
  · rw [Nat.xor_zero] at h
    omega
theorem z_inj (a b : Nat) (ha : a < 2 ^ 32) (hb : b < 2 ^ 32) (h : zN a = zN b) : a = b := by
  refine xor_eq_zero (z_zero _ (Nat.xor_lt_two_pow ha hb) ?_)
  rw [z_xor, h, Nat.xor_self]
def zK : Nat → Nat → Nat
  | 0, n => n
  | k + 1, n => zK k (zN n)
theorem zK_xor : ∀ (k a b : Nat), zK k (a ^^^ b) = zK k a ^^^ zK k b
  | 0, _, _ => rfl
  | k + 1, a, b => by unfold zK; rw [z_xor, zK_xor k]
theorem zK_lt : ∀ (k n : Nat), n < 2 ^ 32 → zK k n < 2 ^ 32
  | 0, _, h => h
  | k + 1, n, h => by unfold zK; exact zK_lt k _ (z_lt n h)
theorem zK_inj : ∀ (k a b : Nat), a < 2 ^ 32 → b < 2 ^ 32 → zK k a = zK k b → a = b
  | 0, _, _, _, _, h => h
  | k + 1, a, b, ha, hb, h => by
    unfold zK at h
    exact z_inj _ _ ha hb (zK_inj k _ _ (z_lt _ ha) (z_lt _ hb) h)
theorem zK_add : ∀ (j k n : Nat), zK (j + k) n = zK k (zK j n)
  | 0, k, n => by rw [Nat.zero_add]; rfl
  | j + 1, k, n => by
    rw [Nat.add_right_comm]
    show zK (j + k) (zN n) = _
    rw [zK_add j k]
    rfl
/-- Zeros at the low end: a shift. -/
theorem zK_shift : ∀ (k m : Nat), zK k (m * 2 ^ k) = m
  | 0, m => by show m * 1 = m; omega
  | k + 1, m => by
    show zK k (zN (m * 2 ^ (k + 1))) = m
    have e : m * 2 ^ (k + 1) = m * 2 ^ k * 2 := by rw [Nat.pow_succ, Nat.mul_assoc]
    have h : zN (m * 2 ^ (k + 1)) = m * 2 ^ k := by
      unfold zN
      rw [e, if_neg (by omega), Nat.xor_zero]
      omega
    rw [h, zK_shift k]
theorem split_xor (k n : Nat) : n = (n / 2 ^ k) * 2 ^ k ^^^ n % 2 ^ k := by
  have h : n = ((n >>> k) <<< k) ^^^ (n % 2 ^ k) := by
    apply Nat.eq_of_testBit_eq
    intro i
    rw [Nat.testBit_xor, Nat.testBit_shiftLeft, Nat.testBit_shiftRight, Nat.testBit_mod_two_pow]
    by_cases h : k ≤ i
    · simp [h, show ¬ i < k by omega, Nat.add_sub_cancel' h]
    · simp [h, show i < k by omega]
  rw [Nat.shiftLeft_eq, Nat.shiftRight_eq_div_pow] at h
  exact h
theorem zK_split (k n : Nat) : zK k n = n / 2 ^ k ^^^ zK k (n % 2 ^ k) := by
  have h := congrArg (zK k) (split_xor k n)
  rw [zK_xor, zK_shift] at h
  exact h
theorem xor_shr (k a b : Nat) : (a ^^^ b) / 2 ^ k = a / 2 ^ k ^^^ b / 2 ^ k := by
  have := Nat.shiftRight_xor_distrib (a := a) (b := b) (i := k)
  simpa [Nat.shiftRight_eq_div_pow] using this
/-- Half a byte taken, by the table. -/
def halfN (n c : Nat) : Nat := n / 16 ^^^ zK 4 ((n ^^^ c) % 16)
theorem halfN_eq (n c : Nat) : halfN n c = zK 4 (n ^^^ c) ^^^ c / 16 := by
  have h := zK_split 4 (n ^^^ c)
  rw [xor_shr] at h
  unfold halfN
  rw [h]
  show _ = n / 16 ^^^ c / 16 ^^^ zK 4 ((n ^^^ c) % 16) ^^^ c / 16
  rw [Nat.xor_assoc (n / 16), Nat.xor_assoc (n / 16), Nat.xor_comm (c / 16), Nat.xor_assoc, Nat.xor_self, Nat.xor_zero]
/-- A byte taken. -/
def byteN (n c : Nat) : Nat := zK 8 (n ^^^ c)
theorem byteN_half (n c : Nat) (hc : c < 256) : halfN (halfN n c) (c / 16) = byteN n c := by
  rw [halfN_eq, halfN_eq, Nat.xor_assoc, Nat.xor_self, Nat.xor_zero, show c / 16 / 16 = 0 by omega, Nat.xor_zero]
  unfold byteN
  exact (zK_add 4 4 _).symm
theorem byteN_lt (n c : Nat) (hn : n < 2 ^ 32) (hc : c < 256) : byteN n c < 2 ^ 32 := zK_lt 8 _ (Nat.xor_lt_two_pow hn (by omega))
/-- The document's bit. -/
def docN (n c : Nat) : Nat := n / 2 ^^^ (if n % 2 ≠ c % 2 then CP else 0)
theorem docN_eq (n c : Nat) : zN (n ^^^ c) = docN n c ^^^ c / 2 := by
  unfold zN docN
  rw [xor_half, xor_odd]
  have h : ((n % 2 + c % 2) % 2 = 1) = (n % 2 ≠ c % 2) := by
    apply propext
    omega
  simp only [h]
  rw [Nat.xor_assoc, Nat.xor_comm (c / 2), ← Nat.xor_assoc]
/-- k bits of the document. -/
def docK : Nat → Nat → Nat → Nat
  | 0, n, _ => n
  | k + 1, n, c => docK k (docN n c) (c / 2)
theorem docK_eq : ∀ (k n c : Nat), c < 2 ^ k → zK k (n ^^^ c) = docK k n c
  | 0, n, c, h => by
    obtain rfl : c = 0 := by simpa using h
    rw [Nat.xor_zero]
    rfl
  | k + 1, n, c, h => by
    show zK k (zN (n ^^^ c)) = docK k (docN n c) (c / 2)
    rw [docN_eq]
    exact docK_eq k _ _ (by rw [Nat.pow_succ] at h; omega)
theorem docK_byte (n c : Nat) (hc : c < 256) : docK 8 n c = byteN n c := (docK_eq 8 n c hc).symm
def sumN (n : Nat) (l : List UInt8) : Nat := l.foldl (fun n c => byteN n c.toNat) n
theorem sumN_lt (l : List UInt8) : ∀ n, n < 2 ^ 32 → sumN n l < 2 ^ 32 := by
  induction l with
  | nil => exact fun n h => h
  | cons a l ih => exact fun n h => ih _ (byteN_lt n _ h a.toNat_lt)
theorem sumN_append (n : Nat) (x y : List UInt8) : sumN n (x ++ y) = sumN (sumN n x) y := by
  unfold sumN
  rw [List.foldl_append]
theorem sumN_snoc (n : Nat) (x : List UInt8) (c : UInt8) : sumN n (x ++ [c]) = byteN (sumN n x) c.toNat := by
  rw [sumN_append]
  rfl
theorem sumN_inj (l : List UInt8) : ∀ a b, a < 2 ^ 32 → b < 2 ^ 32 → sumN a l = sumN b l → a = b := by
  induction l with
  | nil => exact fun a b _ _ h => h
  | cons c l ih =>
    intro a b ha hb h
    have h1 := ih _ _ (byteN_lt a _ ha c.toNat_lt) (byteN_lt b _ hb c.toNat_lt) h
    have h2 := zK_inj 8 _ _ (Nat.xor_lt_two_pow ha (Nat.lt_trans c.toNat_lt (by omega))) (Nat.xor_lt_two_pow hb (Nat.lt_trans c.toNat_lt (by omega))) h1
    have h3 : a ^^^ c.toNat ^^^ c.toNat = b ^^^ c.toNat ^^^ c.toNat := by rw [h2]
    rwa [Nat.xor_assoc, Nat.xor_assoc, Nat.xor_self, Nat.xor_zero, Nat.xor_zero] at h3
end Go.Proofs.Ytcbngjpihcemiaa

/- Plain: a row of at most thirty-two bits changed, another sum. -/
namespace Go.Proofs.Ytcbngjpihcemiaa

/-- Bytes as one number, the first the lowest. -/
def valN : List UInt8 → Nat
  | [] => 0
  | a :: l => a.toNat ^^^ valN l * 256
theorem sumN_val : ∀ (l : List UInt8) (n : Nat), sumN n l = zK (8 * l.length) (n ^^^ valN l)
  | [], n => by
    show n = zK 0 (n ^^^ 0)
    rw [Nat.xor_zero]
    rfl
  | a :: l, n => by
    have h8 : zK 8 (valN l * 256) = valN l := zK_shift 8 (valN l)
    have hc : sumN n (a :: l) = sumN (byteN n a.toNat) l := rfl
    have hv : valN (a :: l) = a.toNat ^^^ valN l * 256 := rfl
    rw [hc, hv, sumN_val l, List.length_cons, Nat.mul_add, Nat.mul_one, Nat.add_comm (8 * l.length) 8, zK_add 8 (8 * l.length), ← Nat.xor_assoc, zK_xor 8 _ (valN l * 256), h8]
    unfold byteN
    rfl
theorem xor_move (a b : Nat) : a ^^^ b ^^^ a = b := by rw [Nat.xor_comm a, Nat.xor_assoc, Nat.xor_self, Nat.xor_zero]
theorem sum_diff (b c : List UInt8) (n bits i : Nat) (hlen : c.length = b.length) (hi : i ≤ 8 * b.length) (h0 : bits ≠ 0) (hb : bits < 2 ^ 32) (hv : valN c = valN b ^^^ bits * 2 ^ i) : sumN n b ≠ sumN n c := by
  rw [sumN_val, sumN_val, hlen, hv, ← Nat.xor_assoc, zK_xor _ (n ^^^ valN b)]
  intro h
  have h1 : zK (8 * b.length) (bits * 2 ^ i) = 0 := by
    have h2 : zK (8 * b.length) (n ^^^ valN b) ^^^ zK (8 * b.length) (n ^^^ valN b) = zK (8 * b.length) (n ^^^ valN b) ^^^ (zK (8 * b.length) (n ^^^ valN b) ^^^ zK (8 * b.length) (bits * 2 ^ i)) := by rw [← h]
    rw [Nat.xor_self, ← Nat.xor_assoc, Nat.xor_self, Nat.zero_xor] at h2
    exact h2.symm
  obtain ⟨d, hd⟩ : ∃ d, 8 * b.length = i + d := ⟨8 * b.length - i, by omega⟩
  rw [hd, zK_add, zK_shift] at h1
  have h3 : zK d 0 = 0 := by
    have := zK_shift d 0
    rwa [Nat.zero_mul] at this
  exact h0 (zK_inj d bits 0 hb (by omega) (by rw [h1, h3]))
theorem xor_mul256 (a b : Nat) : (a ^^^ b) * 256 = a * 256 ^^^ b * 256 := by
  have := Nat.shiftLeft_xor_distrib (a := a) (b := b) (i := 8)
  simpa [Nat.shiftLeft_eq] using this
theorem valN_set : ∀ (l : List UInt8) (j : Nat) (u : UInt8) (h : j < l.length), valN (l.set j (l[j] ^^^ u)) = valN l ^^^ u.toNat * 256 ^ j
  | a :: l, 0, u, h => by
    show (a ^^^ u).toNat ^^^ valN l * 256 = a.toNat ^^^ valN l * 256 ^^^ u.toNat * 1
    rw [UInt8.toNat_xor, Nat.mul_one, Nat.xor_assoc, Nat.xor_assoc, Nat.xor_comm u.toNat]
  | a :: l, j + 1, u, h => by
    have h' : j < l.length := by simpa using h
    show a.toNat ^^^ valN (l.set j (l[j] ^^^ u)) * 256 = a.toNat ^^^ valN l * 256 ^^^ u.toNat * 256 ^ (j + 1)
    rw [valN_set l j u h', xor_mul256, Nat.xor_assoc, Nat.pow_succ, Nat.mul_assoc]
theorem bits_take (bits k : Nat) (h : bits / 2 ^ k % 2 = 1) : bits % 2 ^ (k + 1) = bits % 2 ^ k ^^^ 2 ^ k := by
  apply Nat.eq_of_testBit_eq
  intro i
  have hk : bits.testBit k = true := by
    rw [Nat.testBit_eq_decide_div_mod_eq, h]
    rfl
  rw [Nat.testBit_xor, Nat.testBit_mod_two_pow, Nat.testBit_mod_two_pow, Nat.testBit_two_pow]
  rcases Nat.lt_trichotomy i k with hi | rfl | hi
  · simp [hi, show i < k + 1 by omega, show ¬ k = i by omega]
  · simp [hk]
  · simp [show ¬ i < k + 1 by omega, show ¬ i < k by omega, show ¬ k = i by omega]
theorem bits_skip (bits k : Nat) (h : bits / 2 ^ k % 2 = 0) : bits % 2 ^ (k + 1) = bits % 2 ^ k := by
  apply Nat.eq_of_testBit_eq
  intro i
  have hk : bits.testBit k = false := by
    rw [Nat.testBit_eq_decide_div_mod_eq, h]
    rfl
  rw [Nat.testBit_mod_two_pow, Nat.testBit_mod_two_pow]
  rcases Nat.lt_trichotomy i k with hi | rfl | hi
  · simp [hi, show i < k + 1 by omega]
  · simp [hk]
  · simp [show ¬ i < k + 1 by omega, show ¬ i < k by omega]
end Go.Proofs.Ytcbngjpihcemiaa

/- check.table, walked. -/
namespace Go.Proofs.Ytcbngjpihcemiaa
open Go.RowKit

/-- The table's cells. -/
def tabV (k : Nat) : Array Value := ((List.range 16).map fun i => Value.int .u32 ((if i < k then zK 4 i else 0 : Nat) : Int)).toArray
theorem tab_16 (f : Nat → Nat) : ((List.range 16).map fun i => Value.int .u32 ((if i < 16 then f i else 0 : Nat) : Int)).toArray = #[.int .u32 (f 0 : Int), .int .u32 (f 1 : Int), .int .u32 (f 2 : Int), .int .u32 (f 3 : Int), .int .u32 (f 4 : Int), .int .u32 (f 5 : Int), .int .u32 (f 6 : Int), .int .u32 (f 7 : Int), .int .u32 (f 8 : Int), .int .u32 (f 9 : Int), .int .u32 (f 10 : Int), .int .u32 (f 11 : Int), .int .u32 (f 12 : Int), .int .u32 (f 13 : Int), .int .u32 (f 14 : Int), .int .u32 (f 15 : Int)] := rfl
theorem tabV_size (k : Nat) : (tabV k).size = 16 := by simp [tabV]
theorem tabV_get (k i : Nat) (h : i < 16) : (tabV k)[i]? = some (Value.int .u32 ((if i < k then zK 4 i else 0 : Nat) : Int)) := by
  unfold tabV
  rw [List.getElem?_toArray, List.getElem?_map, List.getElem?_range h]
  rfl
theorem tabV_set (k : Nat) (h : k < 16) : (tabV k).setIfInBounds k (.int .u32 (zK 4 k : Int)) = tabV (k + 1) := by
  apply Array.ext_getElem?
  intro i
  rw [Array.getElem?_setIfInBounds, tabV_size]
  by_cases hi : i < 16
  · rw [tabV_get k i hi, tabV_get (k + 1) i hi]
    by_cases e : k = i
    · subst e
      rw [if_pos rfl, if_pos h, if_pos (by omega)]
    · rw [if_neg e]
      by_cases h2 : i < k
      · rw [if_pos h2, if_pos (by omega)]
      · rw [if_neg h2, if_neg (by omega)]
  · rw [Array.getElem?_eq_none (by rw [tabV_size]; omega), Array.getElem?_eq_none (by rw [tabV_size]; omega)]
    by_cases e : k = i
    · omega
    · rw [if_neg e]
theorem u32_of {a : Nat} (h : a < 4294967296) : IntKind.u32.wrap (a : Int) = (a : Int) := by
  rw [IntKind.wrap_u32]
  exact Int.emod_eq_of_lt (Int.natCast_nonneg _) (Int.ofNat_lt.2 h)
theorem u32_and1 (x : Nat) (h : x < 4294967296) : bits .and .u32 (x : Int) 1 = ((x % 2 : Nat) : Int) := by
  have := u32_and_nat x 1 h (by omega)
  rw [Nat.and_one_is_mod] at this
  exact this
theorem u32_poly (x : Nat) (h : x < 4294967296) : bits .xor .u32 ((x : Int) / 2) 3945912366 = ((x / 2 ^^^ CP : Nat) : Int) := by
  have := u32_xor_nat (x / 2) CP (by omega) (by unfold CP; omega)
  exact this
set_option maxHeartbeats 1000000 in
set_option maxRecDepth 100000 in
theorem table_any (w : World) : Calls Try.prog 142 #[] w fun e w' => e = .returned (.agg (tabV 16)) ∧ Below w.heap.size w w' := by
  go_enter Try.func142, Try.ntmps142
  go_wp2_with fail
  go_loopw [5] (fun i wr => ∃ k : Nat, k ≤ 16 ∧ i = .int .i64 k ∧ Bk wr w.heap.size 221 (tabV 0) ∧ Bk wr (w.heap.size + 1) 221 (tabV k) ∧ Below w.heap.size w wr) (fun i _ => 16 - (intOf i).toNat)
  case atStart =>
    refine ⟨0, by omega, rfl, (Bk.new w _ _).alloc _, ?_, below_al (below_al (Below.refl _ _) _) _⟩
    have := Bk.new (w.alloc (.cells (tabV 0) 221)) 221 (tabV 0)
    have e : (w.alloc (.cells (tabV 0) 221)).heap.size = w.heap.size + 1 := by simp
    rw [e] at this
    exact this
  case round =>
    obtain ⟨k, hk, rfl, hb0, hb1, hbr⟩ := hrel
    by_cases hlt : k < 16
    · have hwk := u32_of (a := k) (by omega)
      go_wp2_with fail
      go_loopw [3, 10] (fun n j wq => ∃ q : Nat, q ≤ 4 ∧ j = .int .i64 q ∧ n = .int .u32 (zK q k : Int) ∧ wq = wr) (fun _ j _ => 4 - (intOf j).toNat)
      case atStart => exact ⟨0, by omega, rfl, rfl, rfl⟩
      case round =>
        obtain ⟨q, hq, rfl, rfl, rfl⟩ := hrel
        by_cases hlq : q < 4
        · have hz : zK q k < 4294967296 := zK_lt q k (by omega)
          have hnext : zK (q + 1) k = zN (zK q k) := zK_add q 1 k
          have Hnext := Lib.hid hnext
          clear hnext hb0 hb1 hbr
          have hand := u32_and1 _ hz
          have hpoly := u32_poly _ hz
          have hh : IntKind.u32.wrap ((zK q k : Int) / 2) = (zK q k : Int) / 2 := by
            have := u32_of (a := zK q k / 2) (by omega)
            rw [Int.natCast_ediv] at this
            exact this
          generalize zK q k = x at *
          by_cases ho : x % 2 = 1
          · rw [ho] at hand
            go_wp2_with fail
            refine ⟨⟨q + 1, by omega, by simp, ?_, trivial⟩, ?_⟩
            · rw [Hnext.out]
              unfold zN
              rw [if_pos ho]
            · simp only [intOf]
              omega
          · have ho' : x % 2 = 0 := by omega
            rw [ho'] at hand
            go_wp2_with fail
            refine ⟨⟨q + 1, by omega, by simp, ?_, trivial⟩, ?_⟩
            · rw [Hnext.out]
              unfold zN
              rw [if_neg ho, Nat.xor_zero, Int.natCast_ediv]
              rfl
            · simp only [intOf]
              omega
        · obtain rfl : q = 4 := by omega
          have hc : wr.cell? ⟨w.heap.size + 1, k, none⟩ = some (.int .u32 0) := by
            rw [hb1.cell k, tabV_get k k hlt, if_neg (by omega)]
            rfl
          have hf : wr.frozen? ⟨w.heap.size + 1, k, none⟩ = false := hb1.free k
          have hput := hb1.put k (.int .u32 (zK 4 k : Int))
          rw [tabV_set k hlt] at hput
          have h0 := hb0.far (p := ⟨w.heap.size + 1, k, none⟩) (by simp) (.int .u32 (zK 4 k : Int))
          have hbe := below_put hbr (p := ⟨w.heap.size + 1, k, none⟩) (by simp) (.int .u32 (zK 4 k : Int))
          generalize zK 4 k = x at *
          go_wp2_with fail
          refine ⟨⟨k + 1, by omega, by simp, h0, hput, hbe⟩, ?_⟩
          simp only [intOf]
          omega
    · obtain rfl : k = 16 := by omega
      clear hlt hk
      have d0 : wr.cell? ⟨w.heap.size + 1, 0, none⟩ = some (.int .u32 (zK 4 0 : Int)) := hb1.cell 0
      have d1 : wr.cell? ⟨w.heap.size + 1, 1, none⟩ = some (.int .u32 (zK 4 1 : Int)) := hb1.cell 1
      have d2 : wr.cell? ⟨w.heap.size + 1, 2, none⟩ = some (.int .u32 (zK 4 2 : Int)) := hb1.cell 2
      have d3 : wr.cell? ⟨w.heap.size + 1, 3, none⟩ = some (.int .u32 (zK 4 3 : Int)) := hb1.cell 3
      have d4 : wr.cell? ⟨w.heap.size + 1, 4, none⟩ = some (.int .u32 (zK 4 4 : Int)) := hb1.cell 4
      have d5 : wr.cell? ⟨w.heap.size + 1, 5, none⟩ = some (.int .u32 (zK 4 5 : Int)) := hb1.cell 5
      have d6 : wr.cell? ⟨w.heap.size + 1, 6, none⟩ = some (.int .u32 (zK 4 6 : Int)) := hb1.cell 6
      have d7 : wr.cell? ⟨w.heap.size + 1, 7, none⟩ = some (.int .u32 (zK 4 7 : Int)) := hb1.cell 7
      have d8 : wr.cell? ⟨w.heap.size + 1, 8, none⟩ = some (.int .u32 (zK 4 8 : Int)) := hb1.cell 8
      have d9 : wr.cell? ⟨w.heap.size + 1, 9, none⟩ = some (.int .u32 (zK 4 9 : Int)) := hb1.cell 9
      have d10 : wr.cell? ⟨w.heap.size + 1, 10, none⟩ = some (.int .u32 (zK 4 10 : Int)) := hb1.cell 10
      have d11 : wr.cell? ⟨w.heap.size + 1, 11, none⟩ = some (.int .u32 (zK 4 11 : Int)) := hb1.cell 11
      have d12 : wr.cell? ⟨w.heap.size + 1, 12, none⟩ = some (.int .u32 (zK 4 12 : Int)) := hb1.cell 12
      have d13 : wr.cell? ⟨w.heap.size + 1, 13, none⟩ = some (.int .u32 (zK 4 13 : Int)) := hb1.cell 13
      have d14 : wr.cell? ⟨w.heap.size + 1, 14, none⟩ = some (.int .u32 (zK 4 14 : Int)) := hb1.cell 14
      have d15 : wr.cell? ⟨w.heap.size + 1, 15, none⟩ = some (.int .u32 (zK 4 15 : Int)) := hb1.cell 15
      have c0 : wr.cell? ⟨w.heap.size, 0, none⟩ = some (.int .u32 (0 : Int)) := hb0.cell 0
      have c1 : wr.cell? ⟨w.heap.size, 1, none⟩ = some (.int .u32 (0 : Int)) := hb0.cell 1
      have c2 : wr.cell? ⟨w.heap.size, 2, none⟩ = some (.int .u32 (0 : Int)) := hb0.cell 2
      have c3 : wr.cell? ⟨w.heap.size, 3, none⟩ = some (.int .u32 (0 : Int)) := hb0.cell 3
      have c4 : wr.cell? ⟨w.heap.size, 4, none⟩ = some (.int .u32 (0 : Int)) := hb0.cell 4
      have c5 : wr.cell? ⟨w.heap.size, 5, none⟩ = some (.int .u32 (0 : Int)) := hb0.cell 5
      have c6 : wr.cell? ⟨w.heap.size, 6, none⟩ = some (.int .u32 (0 : Int)) := hb0.cell 6
      have c7 : wr.cell? ⟨w.heap.size, 7, none⟩ = some (.int .u32 (0 : Int)) := hb0.cell 7
      have c8 : wr.cell? ⟨w.heap.size, 8, none⟩ = some (.int .u32 (0 : Int)) := hb0.cell 8
      have c9 : wr.cell? ⟨w.heap.size, 9, none⟩ = some (.int .u32 (0 : Int)) := hb0.cell 9
      have c10 : wr.cell? ⟨w.heap.size, 10, none⟩ = some (.int .u32 (0 : Int)) := hb0.cell 10
      have c11 : wr.cell? ⟨w.heap.size, 11, none⟩ = some (.int .u32 (0 : Int)) := hb0.cell 11
      have c12 : wr.cell? ⟨w.heap.size, 12, none⟩ = some (.int .u32 (0 : Int)) := hb0.cell 12
      have c13 : wr.cell? ⟨w.heap.size, 13, none⟩ = some (.int .u32 (0 : Int)) := hb0.cell 13
      have c14 : wr.cell? ⟨w.heap.size, 14, none⟩ = some (.int .u32 (0 : Int)) := hb0.cell 14
      have c15 : wr.cell? ⟨w.heap.size, 15, none⟩ = some (.int .u32 (0 : Int)) := hb0.cell 15
      have f0 : wr.frozen? ⟨w.heap.size, 0, none⟩ = false := hb0.free 0
      have f1 : wr.frozen? ⟨w.heap.size, 1, none⟩ = false := hb0.free 1
      have f2 : wr.frozen? ⟨w.heap.size, 2, none⟩ = false := hb0.free 2
      have f3 : wr.frozen? ⟨w.heap.size, 3, none⟩ = false := hb0.free 3
      have f4 : wr.frozen? ⟨w.heap.size, 4, none⟩ = false := hb0.free 4
      have f5 : wr.frozen? ⟨w.heap.size, 5, none⟩ = false := hb0.free 5
      have f6 : wr.frozen? ⟨w.heap.size, 6, none⟩ = false := hb0.free 6
      have f7 : wr.frozen? ⟨w.heap.size, 7, none⟩ = false := hb0.free 7
      have f8 : wr.frozen? ⟨w.heap.size, 8, none⟩ = false := hb0.free 8
      have f9 : wr.frozen? ⟨w.heap.size, 9, none⟩ = false := hb0.free 9
      have f10 : wr.frozen? ⟨w.heap.size, 10, none⟩ = false := hb0.free 10
      have f11 : wr.frozen? ⟨w.heap.size, 11, none⟩ = false := hb0.free 11
      have f12 : wr.frozen? ⟨w.heap.size, 12, none⟩ = false := hb0.free 12
      have f13 : wr.frozen? ⟨w.heap.size, 13, none⟩ = false := hb0.free 13
      have f14 : wr.frozen? ⟨w.heap.size, 14, none⟩ = false := hb0.free 14
      have f15 : wr.frozen? ⟨w.heap.size, 15, none⟩ = false := hb0.free 15
      go_wp2_with fail
      have ht : tabV 16 = _ := tab_16 (zK 4)
      rw [ht]
      clear ht hb1 hb0
      generalize zK 4 0 = z0 at *
      generalize zK 4 1 = z1 at *
      generalize zK 4 2 = z2 at *
      generalize zK 4 3 = z3 at *
      generalize zK 4 4 = z4 at *
      generalize zK 4 5 = z5 at *
      generalize zK 4 6 = z6 at *
      generalize zK 4 7 = z7 at *
      generalize zK 4 8 = z8 at *
      generalize zK 4 9 = z9 at *
      generalize zK 4 10 = z10 at *
      generalize zK 4 11 = z11 at *
      generalize zK 4 12 = z12 at *
      generalize zK 4 13 = z13 at *
      generalize zK 4 14 = z14 at *
      generalize zK 4 15 = z15 at *
      have hbe : Below w.heap.size w _ := hbr
      replace hbe := below_put hbe (p := ⟨w.heap.size, 0, none⟩) (Nat.le_refl _) (.int .u32 (z0 : Int))
      replace hbe := below_put hbe (p := ⟨w.heap.size, 1, none⟩) (Nat.le_refl _) (.int .u32 (z1 : Int))
      replace hbe := below_put hbe (p := ⟨w.heap.size, 2, none⟩) (Nat.le_refl _) (.int .u32 (z2 : Int))
      replace hbe := below_put hbe (p := ⟨w.heap.size, 3, none⟩) (Nat.le_refl _) (.int .u32 (z3 : Int))
      replace hbe := below_put hbe (p := ⟨w.heap.size, 4, none⟩) (Nat.le_refl _) (.int .u32 (z4 : Int))
      replace hbe := below_put hbe (p := ⟨w.heap.size, 5, none⟩) (Nat.le_refl _) (.int .u32 (z5 : Int))
      replace hbe := below_put hbe (p := ⟨w.heap.size, 6, none⟩) (Nat.le_refl _) (.int .u32 (z6 : Int))
      replace hbe := below_put hbe (p := ⟨w.heap.size, 7, none⟩) (Nat.le_refl _) (.int .u32 (z7 : Int))
      replace hbe := below_put hbe (p := ⟨w.heap.size, 8, none⟩) (Nat.le_refl _) (.int .u32 (z8 : Int))
      replace hbe := below_put hbe (p := ⟨w.heap.size, 9, none⟩) (Nat.le_refl _) (.int .u32 (z9 : Int))
      replace hbe := below_put hbe (p := ⟨w.heap.size, 10, none⟩) (Nat.le_refl _) (.int .u32 (z10 : Int))
      replace hbe := below_put hbe (p := ⟨w.heap.size, 11, none⟩) (Nat.le_refl _) (.int .u32 (z11 : Int))
      replace hbe := below_put hbe (p := ⟨w.heap.size, 12, none⟩) (Nat.le_refl _) (.int .u32 (z12 : Int))
      replace hbe := below_put hbe (p := ⟨w.heap.size, 13, none⟩) (Nat.le_refl _) (.int .u32 (z13 : Int))
      replace hbe := below_put hbe (p := ⟨w.heap.size, 14, none⟩) (Nat.le_refl _) (.int .u32 (z14 : Int))
      replace hbe := below_put hbe (p := ⟨w.heap.size, 15, none⟩) (Nat.le_refl _) (.int .u32 (z15 : Int))
      refine bodyPost_ret (v := .agg #[.int .u32 (z0 : Int), .int .u32 (z1 : Int), .int .u32 (z2 : Int), .int .u32 (z3 : Int), .int .u32 (z4 : Int), .int .u32 (z5 : Int), .int .u32 (z6 : Int), .int .u32 (z7 : Int), .int .u32 (z8 : Int), .int .u32 (z9 : Int), .int .u32 (z10 : Int), .int .u32 (z11 : Int), .int .u32 (z12 : Int), .int .u32 (z13 : Int), .int .u32 (z14 : Int), .int .u32 (z15 : Int)]) ?_ ?_ ?_
      · simp [results, Try.results142, go_sem, c0, c1, c2, c3, c4, c5, c6, c7, c8, c9, c10, c11, c12, c13, c14, c15]
      · rfl
      · exact ⟨rfl, hbe⟩
end Go.Proofs.Ytcbngjpihcemiaa

/- check.Of, walked. -/
namespace Go.Proofs.Ytcbngjpihcemiaa
open Go.RowKit

theorem u32_and15 (x : Nat) (h : x < 4294967296) : bits .and .u32 (x : Int) 15 = ((x % 16 : Nat) : Int) := by
  have := u32_and_nat x 15 h (by omega)
  rw [show x &&& 15 = x % 16 from Nat.and_two_pow_sub_one_eq_mod x 4] at this
  exact this
/-- The program's sum of bytes. -/
def crc (l : List UInt8) : Nat := 4294967295 - sumN 4294967295 l
theorem crc_lt (l : List UInt8) : crc l < 4294967296 := by unfold crc; omega
theorem sum_lt (l : List UInt8) : sumN 4294967295 l < 4294967296 := sumN_lt l _ (by omega)

theorem tab_lit : ∃ z0 z1 z2 z3 z4 z5 z6 z7 z8 z9 z10 z11 z12 z13 z14 z15 : Nat, tabV 16 = #[.int .u32 (z0 : Int), .int .u32 (z1 : Int), .int .u32 (z2 : Int), .int .u32 (z3 : Int), .int .u32 (z4 : Int), .int .u32 (z5 : Int), .int .u32 (z6 : Int), .int .u32 (z7 : Int), .int .u32 (z8 : Int), .int .u32 (z9 : Int), .int .u32 (z10 : Int), .int .u32 (z11 : Int), .int .u32 (z12 : Int), .int .u32 (z13 : Int), .int .u32 (z14 : Int), .int .u32 (z15 : Int)] := ⟨_, _, _, _, _, _, _, _, _, _, _, _, _, _, _, _, tab_16 (zK 4)⟩
theorem xor_full (s : Nat) (h : s < 2 ^ 32) : 4294967295 ^^^ s = 4294967295 - s := by
  apply Nat.eq_of_testBit_eq
  intro i
  have e := Nat.testBit_two_pow_sub_succ h i
  have e1 : 2 ^ 32 - (s + 1) = 4294967295 - s := by omega
  rw [e1] at e
  have e2 := Nat.testBit_two_pow_sub_one 32 i
  rw [e, Nat.testBit_xor, show (4294967295 : Nat) = 2 ^ 32 - 1 from rfl, e2]
  by_cases hi : i < 32
  · simp [hi]
  · have : s.testBit i = false := Nat.testBit_lt_two_pow (Nat.lt_of_lt_of_le h (Nat.pow_le_pow_right (by omega) (by omega)))
    simp [hi, this]
theorem not_u32 (s : Nat) (h : s < 4294967296) : bits .xor .u32 IntKind.u32.max (s : Int) = ((4294967295 - s : Nat) : Int) := by
  have := u32_xor_nat 4294967295 s (by omega) h
  rw [xor_full s h] at this
  exact this
set_option maxHeartbeats 2000000 in
set_option maxRecDepth 100000 in
theorem cof_any (A : Option Addr) (n c : Nat) (l : List Tx) (w : World) (hl : l.length = n) (hn : n ≤ 1000000) (hr : Rd w w.heap.size A (vt l)) (hok : ∀ x ∈ l, x.ok w ∧ x.l.length ≤ 70368744177664) :
    Calls Try.prog 100 #[.slice A n c] w fun e w' => e = .returned (.int .u32 (crc (l.flatMap Tx.l) : Int)) ∧ Below w.heap.size w w' := by
  have Hl := Lib.hid hl
  have Hok := Lib.hid hok
  clear hl hok
  go_enter Try.func100, Try.ntmps100
  go_wp2_with fail
  refine (table_any w).mono ?_
  rintro e w1 ⟨rfl, hb1⟩
  obtain ⟨z0, z1, z2, z3, z4, z5, z6, z7, z8, z9, z10, z11, z12, z13, z14, z15, ht⟩ := tab_lit
  have Ht := Lib.hid ht
  rw [ht]
  clear ht
  have hB : Bk (w1.alloc (.cells #[.int .u32 (z0 : Int), .int .u32 (z1 : Int), .int .u32 (z2 : Int), .int .u32 (z3 : Int), .int .u32 (z4 : Int), .int .u32 (z5 : Int), .int .u32 (z6 : Int), .int .u32 (z7 : Int), .int .u32 (z8 : Int), .int .u32 (z9 : Int), .int .u32 (z10 : Int), .int .u32 (z11 : Int), .int .u32 (z12 : Int), .int .u32 (z13 : Int), .int .u32 (z14 : Int), .int .u32 (z15 : Int)] 221)) w1.heap.size 221 (tabV 16) := by
    rw [Ht.out]
    exact Bk.new _ _ _
  have hbe := hb1.alloc hb1.size (.cells #[.int .u32 (z0 : Int), .int .u32 (z1 : Int), .int .u32 (z2 : Int), .int .u32 (z3 : Int), .int .u32 (z4 : Int), .int .u32 (z5 : Int), .int .u32 (z6 : Int), .int .u32 (z7 : Int), .int .u32 (z8 : Int), .int .u32 (z9 : Int), .int .u32 (z10 : Int), .int .u32 (z11 : Int), .int .u32 (z12 : Int), .int .u32 (z13 : Int), .int .u32 (z14 : Int), .int .u32 (z15 : Int)] 221)
  go_wp2_with fail
  have hrW : Rd (w1.alloc (.cells #[.int .u32 (z0 : Int), .int .u32 (z1 : Int), .int .u32 (z2 : Int), .int .u32 (z3 : Int), .int .u32 (z4 : Int), .int .u32 (z5 : Int), .int .u32 (z6 : Int), .int .u32 (z7 : Int), .int .u32 (z8 : Int), .int .u32 (z9 : Int), .int .u32 (z10 : Int), .int .u32 (z11 : Int), .int .u32 (z12 : Int), .int .u32 (z13 : Int), .int .u32 (z14 : Int), .int .u32 (z15 : Int)] 221)) w.heap.size A (vt l) := hr.below hbe
  have hokW : ∀ x ∈ l, Rd (w1.alloc (.cells #[.int .u32 (z0 : Int), .int .u32 (z1 : Int), .int .u32 (z2 : Int), .int .u32 (z3 : Int), .int .u32 (z4 : Int), .int .u32 (z5 : Int), .int .u32 (z6 : Int), .int .u32 (z7 : Int), .int .u32 (z8 : Int), .int .u32 (z9 : Int), .int .u32 (z10 : Int), .int .u32 (z11 : Int), .int .u32 (z12 : Int), .int .u32 (z13 : Int), .int .u32 (z14 : Int), .int .u32 (z15 : Int)] 221)) w.heap.size x.A (vb x.l) ∧ x.l.length ≤ 70368744177664 := fun x hx => ⟨(Hok.out x hx).1.below hbe, (Hok.out x hx).2⟩
  have HokW := Lib.hid hokW
  clear hokW hr hb1
  generalize w1.alloc (.cells #[.int .u32 (z0 : Int), .int .u32 (z1 : Int), .int .u32 (z2 : Int), .int .u32 (z3 : Int), .int .u32 (z4 : Int), .int .u32 (z5 : Int), .int .u32 (z6 : Int), .int .u32 (z7 : Int), .int .u32 (z8 : Int), .int .u32 (z9 : Int), .int .u32 (z10 : Int), .int .u32 (z11 : Int), .int .u32 (z12 : Int), .int .u32 (z13 : Int), .int .u32 (z14 : Int), .int .u32 (z15 : Int)] 221) = W at *
  generalize w1.heap.size = g at *
  clear Ht
  go_loop [4, 12] (fun s i => ∃ k : Nat, k ≤ n ∧ i = .int .i64 k ∧ s = .int .u32 (sumN 4294967295 ((l.take k).flatMap Tx.l) : Int)) (fun _ i => n - (intOf i).toNat)
  case atStart => exact ⟨0, Nat.zero_le _, rfl, rfl⟩
  case round =>
    obtain ⟨k, hk, rfl, rfl⟩ := hrel
    by_cases hlt : k < n
    · obtain ⟨x, hx⟩ : ∃ x, l[k]? = some x := ⟨l[k]'(by have := Hl.out; omega), List.getElem?_eq_getElem _⟩
      obtain ⟨b, off, rfl, hbw, hc0⟩ := hrW _ _ (vt_get hx)
      have hnext : sumN 4294967295 ((l.take (k + 1)).flatMap Tx.l) = sumN (sumN 4294967295 ((l.take k).flatMap Tx.l)) x.l := by
        obtain ⟨h1, rfl⟩ := List.getElem?_eq_some_iff.1 hx
        rw [List.take_succ_eq_append_getElem h1, List.flatMap_append, sumN_append]
        simp
      have Hnext := Lib.hid hnext
      obtain ⟨hrx, hlx⟩ := HokW.out x (List.mem_of_getElem? hx)
      obtain ⟨xA, xc, xl⟩ := x
      simp only at hc0 hrx hlx
      have hs0 : sumN 4294967295 ((l.take k).flatMap Tx.l) < 4294967296 := sum_lt _
      clear hnext hx
      generalize sumN 4294967295 ((l.take k).flatMap Tx.l) = s0 at *
      go_wp2_with fail
      obtain ⟨m, hm⟩ : ∃ m, m = xl.length := ⟨_, rfl⟩
      have Hm := Lib.hid hm
      rw [← hm]
      clear hm
      go_loop [4, 18] (fun s j => ∃ q : Nat, q ≤ m ∧ j = .int .i64 q ∧ s = .int .u32 (sumN s0 (xl.take q) : Int)) (fun _ j => m - (intOf j).toNat)
      case atStart => exact ⟨0, Nat.zero_le _, rfl, rfl⟩
      case round =>
        obtain ⟨q, hq, rfl, rfl⟩ := hrel
        by_cases hlq : q < m
        · have hq' : q < xl.length := by rw [← Hm.out]; exact hlq
          obtain ⟨b2, off2, rfl, hb2, hc2⟩ := hrx.byte hq'
          have hstep : sumN s0 (xl.take (q + 1)) = byteN (sumN s0 (xl.take q)) xl[q].toNat := by
            rw [List.take_succ_eq_append_getElem hq', sumN_snoc]
          have hs1 : sumN s0 (xl.take q) < 4294967296 := sumN_lt _ _ hs0
          have hcb : xl[q].toNat < 256 := xl[q].toNat_lt
          generalize sumN s0 (xl.take q) = s1 at *
          generalize xl[q].toNat = cc at *
          rw [← byteN_half s1 cc hcb] at hstep
          have hx1 : bits .xor .u32 (s1 : Int) (cc : Int) = ((s1 ^^^ cc : Nat) : Int) := u32_xor_nat s1 cc hs1 (by omega)
          have hl1 : s1 ^^^ cc < 4294967296 := Nat.xor_lt_two_pow (n := 32) (by omega) (by omega)
          have ha1 := u32_and15 (s1 ^^^ cc) hl1
          have hi1 : (s1 ^^^ cc) % 16 < 16 := Nat.mod_lt _ (by omega)
          have hc3 : W.cell? ⟨g, (s1 ^^^ cc) % 16, none⟩ = some (.int .u32 (zK 4 ((s1 ^^^ cc) % 16) : Int)) := by
            rw [hB.cell, tabV_get 16 _ hi1, if_pos hi1]
          have hz1 : zK 4 ((s1 ^^^ cc) % 16) < 4294967296 := zK_lt _ _ (by omega)
          have hy1 : bits .xor .u32 ((s1 : Int) / 16) (zK 4 ((s1 ^^^ cc) % 16) : Int) = (halfN s1 cc : Int) := u32_xor_nat (s1 / 16) _ (by omega) hz1
          have hh1 : halfN s1 cc < 4294967296 := Nat.xor_lt_two_pow (n := 32) (by omega) (by omega)
          generalize halfN s1 cc = h1 at *
          generalize zK 4 ((s1 ^^^ cc) % 16) = z1' at *
          generalize (s1 ^^^ cc) % 16 = i1 at *
          generalize s1 ^^^ cc = x1 at *
          have hx2 : bits .xor .u32 (h1 : Int) ((cc : Int) / 16) = ((h1 ^^^ (cc / 16) : Nat) : Int) := u32_xor_nat h1 (cc / 16) hh1 (by omega)
          have hl2 : h1 ^^^ (cc / 16) < 4294967296 := Nat.xor_lt_two_pow (n := 32) (by omega) (by omega)
          have ha2 := u32_and15 (h1 ^^^ (cc / 16)) hl2
          have hi2 : (h1 ^^^ (cc / 16)) % 16 < 16 := Nat.mod_lt _ (by omega)
          have hc4 : W.cell? ⟨g, (h1 ^^^ (cc / 16)) % 16, none⟩ = some (.int .u32 (zK 4 ((h1 ^^^ (cc / 16)) % 16) : Int)) := by
            rw [hB.cell, tabV_get 16 _ hi2, if_pos hi2]
          have hz2 : zK 4 ((h1 ^^^ (cc / 16)) % 16) < 4294967296 := zK_lt _ _ (by omega)
          have hy2 : bits .xor .u32 ((h1 : Int) / 16) (zK 4 ((h1 ^^^ (cc / 16)) % 16) : Int) = (halfN h1 (cc / 16) : Int) := u32_xor_nat (h1 / 16) _ (by omega) hz2
          have hh2 : halfN h1 (cc / 16) < 4294967296 := Nat.xor_lt_two_pow (n := 32) (by omega) (by omega)
          generalize halfN h1 (cc / 16) = h2 at *
          generalize zK 4 ((h1 ^^^ (cc / 16)) % 16) = z2' at *
          generalize (h1 ^^^ (cc / 16)) % 16 = i2 at *
          generalize h1 ^^^ (cc / 16) = x2 at *
          have Hstep := Lib.hid hstep
          clear hstep hl1 hl2 hz1 hz2
          go_wp2_with fail
          go_round
          case rel => exact ⟨q + 1, by omega, by go_num, by rw [Hstep.out]⟩
          case measure => simp [intOf]; omega
        · obtain rfl : q = m := by omega
          have hd : sumN s0 (xl.take q) = sumN s0 xl := by rw [List.take_of_length_le (by rw [← Hm.out]; omega)]
          rw [hd]
          rw [← Hnext.out]
          go_wp2_with fail
          go_round
          case rel => exact ⟨k + 1, by omega, by go_num, rfl⟩
          case measure => simp [intOf]; omega
    · obtain rfl : k = n := by omega
      have hd : sumN 4294967295 ((l.take k).flatMap Tx.l) = sumN 4294967295 (l.flatMap Tx.l) := by rw [List.take_of_length_le (by rw [Hl.out]; omega)]
      rw [hd]
      have hs0 := sum_lt (l.flatMap Tx.l)
      generalize hS : sumN 4294967295 (l.flatMap Tx.l) = s0 at *
      have HS := Lib.hid hS
      clear hd hS
      go_wp2_with fail
      go_ret
      refine ⟨?_, hbe⟩
      unfold crc
      rw [HS.out]
      have hn := not_u32 s0 hs0
      generalize bits .xor .u32 IntKind.u32.max (s0 : Int) = X at *
      subst hn
      rfl
end Go.Proofs.Ytcbngjpihcemiaa

/- check.Seal, the document's sum and seal, walked. -/
namespace Go.Proofs.Ytcbngjpihcemiaa
open Go.RowKit

/-- A number's lowest bytes, the lowest first. -/
def leB : Nat → Nat → List UInt8
  | 0, _ => []
  | k + 1, n => UInt8.ofNat (n % 256) :: leB k (n / 256)
theorem leB_length : ∀ k n, (leB k n).length = k
  | 0, _ => rfl
  | k + 1, n => by simp [leB, leB_length k]
def sealL (b : List UInt8) : List UInt8 := b ++ leB 4 (crc b)
theorem sealL_length (b : List UInt8) : (sealL b).length = b.length + 4 := by simp [sealL, leB_length]

section
variable {P : Program} (w : World)
theorem wpList_append_byte_own {ops : Array Oper} {rest : List Oper} {o : Oper} {a : Act} {Q : Exit → Act → World → Prop} (hgd : o.guard = none) (s x : Operand) (t : TypeId)
    (ho : o.op = .call { callee := .builtin .append, args := #[s, x], argTypes := #[t, t] })
    (base : Nat) (e : TypeId) (z : Value) (he : Elm P t e z 1 1)
    (v : Value) (l : List UInt8) (hs : a.eval s = v) (happ : AppB w base e v l) (c : Int) (hx : a.eval x = .slice (some ⟨w.heap.size, 0, none⟩) 1 1)
    (hsz : l.length + 1 ≤ 140737488355328) (hbase : base ≤ w.heap.size) (hc : 0 ≤ c ∧ c < 256)
    (h : ∀ v' w', w'.ownsRow base e 1 v' (l.length + 1) (vb (l ++ [UInt8.ofNat c.toNat])) → Below base w w' → wpList P ops Q rest (a.put o.dst v') w') :
    wpList P ops Q (o :: rest) a (w.alloc (.cells #[.int .u8 c] e)) := by
  refine wpList_append_app _ hgd s x t ho base e z 1 1 he v l.length (vb l) hs (App.alloc happ _) (w.heap.size + 1) _ 1 1 [.int .u8 c] hx rfl (rd_one w _ _) (by intro u hu; simp at hu; subst hu; rfl) (by simp only [maxLen]; omega) (by omega) (by simp; omega) fun v' w' hA => ?_
  have hcv : (Value.int .u8 c) = .int .u8 ((UInt8.ofNat c.toNat).toNat : Int) := by
    have : (UInt8.ofNat c.toNat).toNat = c.toNat := by simp; omega
    rw [this, Int.toNat_of_nonneg hc.1]
  refine h v' w' ?_ (((Below.refl _ _).alloc hbase _).trans hA.below)
  have := hA.own (.inl (by omega))
  rw [hcv] at this
  rw [vb_append]
  exact this
end
theorem own_appB {w : World} {base : Nat} {e : TypeId} {v : Value} {l : List UInt8} {n : Nat} (h : w.ownsRow base e 1 v n (vb l)) (hl : l.length = n) : AppB w base e v l := by
  subst hl
  exact .inl h

set_option maxHeartbeats 1000000 in
set_option maxRecDepth 100000 in
theorem seal_any (A : Option Addr) (n c : Nat) (b : List UInt8) (w : World) (hl : b.length = n) (hn : n ≤ c) (hm : c ≤ maxLen) (hA : A = none → n = 0) (hr : Rd w w.heap.size A (vb b)) (hsz : n ≤ 35184372088832) :
    Calls Try.prog 104 #[.slice A n c] w fun e w' => ∃ v, e = .returned v ∧ w'.ownsRow w.heap.size 5 1 v (n + 4) (vb (sealL b)) ∧ Below w.heap.size w w' := by
  have Hl := Lib.hid hl
  clear hl
  go_enter Try.func104, Try.ntmps104
  go_wp2_with fail
  refine (cof_any _ 1 1 [⟨A, c, b⟩] _ rfl (by omega) ?_ ?_).mono ?_
  · exact (by
      have := Rd.new w #[.slice A n c] 40
      have e : vt [⟨A, c, b⟩] = [.slice A n c] := by simp [vt, Tx.val, Hl.out]
      rw [e]
      exact this)
  · intro x hx
    simp only [List.mem_singleton] at hx
    subst hx
    exact ⟨hr.alloc_ _, by have := Hl.out; simp only; omega⟩
  rintro e w1 ⟨rfl, hb1⟩
  have hbw := below_tr (below_al (Below.refl w.heap.size w) _) hb1
  simp only [List.flatMap_cons, List.flatMap_nil, List.append_nil]
  have hN : crc b < 4294967296 := crc_lt b
  have HE : Hid (b ++ leB 4 (crc b) = sealL b) := Lib.hid rfl
  generalize crc b = N at *
  go_wp2_with fail
  refine (clip_any _ _ _ _ hn hm).mono ?_
  rintro e w2 ⟨rfl, rfl⟩
  go_wp2_with fail
  go_loopw [0, 3, 9] (fun v nv i wr => ∃ (q : Nat) (acc : List UInt8) (N : Nat), q ≤ 4 ∧ i = .int .i64 q ∧ nv = .int .u32 (N : Int) ∧ N < 4294967296 ∧ AppB wr w.heap.size 5 v acc ∧ Hid (acc ++ leB (4 - q) N = sealL b) ∧ Hid (acc.length = n + q) ∧ (0 < q → wr.ownsRow w.heap.size 5 1 v (n + q) (vb acc)) ∧ Below w.heap.size w wr) (fun _ _ i _ => 4 - (intOf i).toNat)
  case atStart =>
    exact ⟨0, b, N, by omega, rfl, rfl, hN, AppB.clip Hl.out hA (hr.below_ hbw), HE, Hl, fun h => by omega, hbw⟩
  case round =>
    obtain ⟨q, acc, N, hq, rfl, rfl, hN, happ, HE, HL, hown, hbe⟩ := hrel
    by_cases hlt : q < 4
    · have hroom : acc.length + 1 ≤ 140737488355328 := by have := HL.out; omega
      have Hroom := Lib.hid hroom
      have Hown := Lib.hid hown
      clear hroom hown
      go_wp2_with (at_builtin; refine wpList_append_byte_own _ rfl (.tmp 11) (.tmp 14) _ rfl w.heap.size _ _ elm_u8 _ acc rfl happ _ rfl Hroom.out hbe.size (by omega) ?_; intro v1 w1 hown1 hbe1)
      go_roundw
      case rel =>
        refine ⟨q + 1, acc ++ [UInt8.ofNat (N % 256)], N / 256, by omega, by go_num, by go_num, by omega, ?_, ?_, ?_, ?_, hbe.trans hbe1⟩
        · rw [show ((N : Int) % 256).toNat = N % 256 by omega] at hown1
          exact own_appB hown1 (by simp)
        · have h := HE.out
          rw [show 4 - q = (4 - (q + 1)) + 1 by omega] at h
          show _ = _
          rw [← h, List.append_assoc]
          rfl
        · have := HL.out
          show _ = _
          simp only [List.length_append, List.length_cons, List.length_nil]
          omega
        · intro _
          rw [show ((N : Int) % 256).toNat = N % 256 by omega] at hown1
          have := HL.out
          rw [show n + (q + 1) = acc.length + 1 by omega]
          exact hown1
      case measure => simp [intOf]; omega
    · obtain rfl : q = 4 := by omega
      have he := HE.out
      have hw := hown (by omega)
      clear hown
      have HW := Lib.hid hw
      clear hw he
      go_wp2_with fail
      go_ret
      refine ⟨_, rfl, ?_, hbe⟩
      have := HW.out
      have he := HE.out
      rw [show leB (4 - 4) N = [] from rfl, List.append_nil] at he
      rw [← he]
      exact this

set_option maxHeartbeats 1000000 in
set_option maxRecDepth 100000 in
theorem rof_any (A : Option Addr) (n c : Nat) (b : List UInt8) (w : World) (hl : b.length = n) (hr : Rd w w.heap.size A (vb b)) (hsz : n ≤ 35184372088832) :
    Calls Try.prog 103 #[.slice A n c] w fun e w' => e = .returned (.int .u32 (crc b : Int)) ∧ w = w' := by
  have Hl := Lib.hid hl
  clear hl
  go_enter Try.func103, Try.ntmps103
  go_wp2_with fail
  go_loop [3, 4] (fun s i => ∃ k : Nat, k ≤ n ∧ i = .int .i64 k ∧ s = .int .u32 (sumN 4294967295 (b.take k) : Int)) (fun _ i => n - (intOf i).toNat)
  case atStart => exact ⟨0, Nat.zero_le _, rfl, rfl⟩
  case round =>
    obtain ⟨k, hk, rfl, rfl⟩ := hrel
    by_cases hlt : k < n
    · have hk' : k < b.length := by rw [Hl.out]; exact hlt
      obtain ⟨b2, off2, rfl, hb2, hc2⟩ := hr.byte hk'
      have hstep : sumN 4294967295 (b.take (k + 1)) = byteN (sumN 4294967295 (b.take k)) b[k].toNat := by
        rw [List.take_succ_eq_append_getElem hk', sumN_snoc]
      have hs1 : sumN 4294967295 (b.take k) < 4294967296 := sum_lt _
      have hcb : b[k].toNat < 256 := b[k].toNat_lt
      generalize sumN 4294967295 (b.take k) = s1 at *
      generalize b[k].toNat = cc at *
      rw [← docK_byte s1 cc hcb] at hstep
      have Hstep := Lib.hid hstep
      clear hstep
      go_wp2_with fail
      go_loop [3, 5, 6] (fun s cv j => ∃ q s' c' : Nat, q ≤ 8 ∧ j = .int .i64 q ∧ s = .int .u32 (s' : Int) ∧ cv = .int .u8 (c' : Int) ∧ s' < 4294967296 ∧ c' < 256 ∧ Hid (docK (8 - q) s' c' = sumN 4294967295 (b.take (k + 1)))) (fun _ _ j => 8 - (intOf j).toNat)
      case atStart => exact ⟨0, s1, cc, by omega, rfl, rfl, rfl, hs1, hcb, Lib.hid Hstep.out.symm⟩
      case round =>
        obtain ⟨q, s', c', hq, rfl, rfl, rfl, hs', hc', HD⟩ := hrel
        by_cases hlq : q < 8
        · have hd : docK (8 - (q + 1)) (docN s' c') (c' / 2) = sumN 4294967295 (b.take (k + 1)) := by
            rw [← HD.out, show 8 - q = (8 - (q + 1)) + 1 by omega]
            rfl
          have hdl : docN s' c' < 4294967296 := by
            unfold docN
            refine Nat.xor_lt_two_pow (n := 32) (by omega) ?_
            split
            · unfold CP; omega
            · omega
          have Hd := Lib.hid hd
          clear hd
          have hpoly := u32_poly s' hs'
          by_cases hne : s' % 2 = c' % 2
          · have h1 : ((s' : Int) % 2 != (c' : Int) % 2) = false := by rw [bne_eq_false_iff_eq]; omega
            have hv : docN s' c' = s' / 2 := by unfold docN; rw [if_neg (by omega), Nat.xor_zero]
            rw [hv] at Hd hdl
            clear hv hne
            go_wp2_with fail
            go_round
            case rel => exact ⟨q + 1, s' / 2, c' / 2, by omega, by go_num, by go_num, by go_num, hdl, by omega, Hd⟩
            case measure => simp [intOf]; omega
          · have h1 : ((s' : Int) % 2 != (c' : Int) % 2) = true := by rw [bne_iff_ne]; omega
            have hv : docN s' c' = s' / 2 ^^^ CP := by unfold docN; rw [if_pos hne]
            rw [← hv] at hpoly
            clear hv hne
            go_wp2_with fail
            go_round
            case rel => exact ⟨q + 1, docN s' c', c' / 2, by omega, by go_num, by go_num, by go_num, hdl, by omega, Hd⟩
            case measure => simp [intOf]; omega
        · obtain rfl : q = 8 := by omega
          have hd := HD.out
          rw [show docK (8 - 8) s' c' = s' from rfl] at hd
          rw [hd]
          clear hd
          go_wp2_with fail
          go_round
          case rel => exact ⟨k + 1, by omega, by go_num, rfl⟩
          case measure => simp [intOf]; omega
    · obtain rfl : k = n := by omega
      have hd : sumN 4294967295 (b.take k) = sumN 4294967295 b := by rw [List.take_of_length_le (by rw [Hl.out]; omega)]
      rw [hd]
      have hs0 := sum_lt b
      generalize hS : sumN 4294967295 b = s0 at *
      have HS := Lib.hid hS
      clear hd hS
      go_wp2_with fail
      go_ret
      refine ⟨?_, rfl⟩
      unfold crc
      rw [HS.out]
      have e : ((4294967295 - s0 : Nat) : Int) = 4294967295 - (s0 : Int) := by omega
      rw [e]
      rfl

set_option maxHeartbeats 1000000 in
set_option maxRecDepth 100000 in
theorem rseal_any (A : Option Addr) (n c : Nat) (b : List UInt8) (w : World) (hl : b.length = n) (hr : Rd w w.heap.size A (vb b)) (hsz : n ≤ 35184372088832) :
    Calls Try.prog 146 #[.slice A n c] w fun e w' => ∃ v, e = .returned v ∧ w'.ownsRow w.heap.size 5 1 v (n + 4) (vb (sealL b)) ∧ Below w.heap.size w w' := by
  have Hl := Lib.hid hl
  clear hl
  go_enter Try.func146, Try.ntmps146
  go_wp2_with fail
  refine (rof_any A n c b w Hl.out hr hsz).mono ?_
  rintro e w1 ⟨rfl, rfl⟩
  have hN : crc b < 4294967296 := crc_lt b
  have HE : Hid (b ++ leB 4 (crc b) = sealL b) := Lib.hid rfl
  generalize crc b = N at *
  go_wp2_with (at_builtin; refine wpList_copy_bytes _ rfl (.tmp 8) (.tmp 9) _ rfl _ _ elm_u8 rfl A n c b rfl Hl.out hr (by omega) ?_; intro A1 c1 w1 hC)
  have happ0 := own_appB hC.own Hl.out
  have hb0 := hC.below
  clear hC
  go_loopw [3, 4, 5] (fun nv v i wr => ∃ (q : Nat) (acc : List UInt8) (N : Nat), q ≤ 4 ∧ i = .int .i64 q ∧ nv = .int .u32 (N : Int) ∧ N < 4294967296 ∧ AppB wr w.heap.size 5 v acc ∧ Hid (acc ++ leB (4 - q) N = sealL b) ∧ Hid (acc.length = n + q) ∧ (0 < q → wr.ownsRow w.heap.size 5 1 v (n + q) (vb acc)) ∧ Below w.heap.size w wr) (fun _ _ i _ => 4 - (intOf i).toNat)
  case atStart =>
    exact ⟨0, b, N, by omega, rfl, rfl, hN, happ0, HE, Hl, fun h => by omega, hb0⟩
  case round =>
    obtain ⟨q, acc, N, hq, rfl, rfl, hN, happ, HE, HL, hown, hbe⟩ := hrel
    by_cases hlt : q < 4
    · have hroom : acc.length + 1 ≤ 140737488355328 := by have := HL.out; omega
      have Hroom := Lib.hid hroom
      have Hown := Lib.hid hown
      clear hroom hown
      go_wp2_with (at_builtin; refine wpList_append_byte_own _ rfl (.tmp 15) (.tmp 19) _ rfl w.heap.size _ _ elm_u8 _ acc rfl happ _ rfl Hroom.out hbe.size (by omega) ?_; intro v1 w1 hown1 hbe1)
      go_roundw
      case rel =>
        refine ⟨q + 1, acc ++ [UInt8.ofNat (N % 256)], N / 256, by omega, by go_num, by go_num, by omega, ?_, ?_, ?_, ?_, hbe.trans hbe1⟩
        · rw [show ((N : Int) % 256).toNat = N % 256 by omega] at hown1
          exact own_appB hown1 (by simp)
        · have h := HE.out
          rw [show 4 - q = (4 - (q + 1)) + 1 by omega] at h
          show _ = _
          rw [← h, List.append_assoc]
          rfl
        · have := HL.out
          show _ = _
          simp only [List.length_append, List.length_cons, List.length_nil]
          omega
        · intro _
          rw [show ((N : Int) % 256).toNat = N % 256 by omega] at hown1
          have := HL.out
          rw [show n + (q + 1) = acc.length + 1 by omega]
          exact hown1
      case measure => simp [intOf]; omega
    · obtain rfl : q = 4 := by omega
      have hw := hown (by omega)
      clear hown
      have HW := Lib.hid hw
      clear hw
      go_wp2_with fail
      go_ret
      refine ⟨_, rfl, ?_, hbe⟩
      have := HW.out
      have he := HE.out
      rw [show leB (4 - 4) N = [] from rfl, List.append_nil] at he
      rw [← he]
      exact this

/-- What slices.Equal says of two rows of bytes. -/
def EqB (a b : List UInt8) (w : World) (e : Ending) (w' : World) : Prop := ∃ r : Bool, e = .returned (.bool r) ∧ (r = true ↔ a = b) ∧ Below w.heap.size w w'
set_option maxHeartbeats 1000000 in
set_option maxRecDepth 100000 in
theorem equal_any (A : Option Addr) (n c : Nat) (a : List UInt8) (B : Option Addr) (m d : Nat) (b : List UInt8) (w : World) (hl : a.length = n) (hr : Rd w w.heap.size A (vb a)) (hl2 : b.length = m) (hr2 : Rd w w.heap.size B (vb b))
    (hn : n ≤ 70368744177664) (hm : m ≤ 70368744177664) :
    Calls Try.prog 128 #[.slice A n c, .slice B m d] w (EqB a b w) := by
  have Hl := Lib.hid hl
  have Hl2 := Lib.hid hl2
  clear hl hl2
  by_cases hnm : n = m
  · subst hnm
    go_enter Try.func128, Try.ntmps128
    go_wp2_with fail
    go_loopw [13] (fun i wr => ∃ q : Nat, q ≤ n ∧ i = .int .i64 q ∧ Hid (a.take q = b.take q) ∧ Below w.heap.size w wr) (fun i _ => n - (intOf i).toNat)
    case atStart => exact ⟨0, Nat.zero_le _, rfl, Lib.hid (by rw [List.take_zero, List.take_zero]), Below.refl _ _⟩
    case round =>
      obtain ⟨q, hq, rfl, HE, hbe⟩ := hrel
      by_cases hlt : q < n
      · have hqa : q < a.length := by rw [Hl.out]; exact hlt
        have hqb : q < b.length := by rw [Hl2.out]; exact hlt
        obtain ⟨b1, o1, rfl, hb1, hc1⟩ := (hr.below hbe).byte hqa
        obtain ⟨b2, o2, rfl, hb2, hc2⟩ := (hr2.below hbe).byte hqb
        by_cases hxy : a[q] = b[q]
        · have htk : a.take (q + 1) = b.take (q + 1) := by
            rw [List.take_succ_eq_append_getElem hqa, List.take_succ_eq_append_getElem hqb, HE.out, hxy]
          have Ht := Lib.hid htk
          rw [← hxy] at hc2
          generalize (a[q].toNat : Int) = x at *
          clear htk hxy
          go_wp2_with fail
          go_region
          all_goals
            go_wp2_with fail
            go_roundw
            case rel => exact ⟨q + 1, by omega, by go_num, Ht, below_drN hbe 1⟩
            case measure => simp [intOf]; omega
        · have hne : ((a[q].toNat : Int) != (b[q].toNat : Int)) = true := by
            rw [bne_iff_ne]
            intro h
            exact hxy (UInt8.toNat_inj.1 (by omega))
          have hab : a ≠ b := by rintro rfl; exact hxy rfl
          have Hab := Lib.hid hab
          generalize (a[q].toNat : Int) = x at *
          generalize (b[q].toNat : Int) = y at *
          clear hab hxy
          go_wp2_with fail
          go_region
          all_goals
            go_wp2_with fail
            go_ret
            exact ⟨_, rfl, ⟨(fun h => by cases h), (fun h => absurd h Hab.out)⟩, below_drN hbe 1⟩
      · obtain rfl : q = n := by omega
        go_wp2_with fail
        go_ret
        refine ⟨_, rfl, ?_, hbe⟩
        have h := HE.out
        rw [List.take_of_length_le (by rw [Hl.out]; omega), List.take_of_length_le (by rw [Hl2.out]; omega)] at h
        simp [h]
  · have hne : ((n : Int) != (m : Int)) = true := by rw [bne_iff_ne]; omega
    go_enter Try.func128, Try.ntmps128
    go_wp2_with fail
    go_ret
    refine ⟨_, rfl, ?_, Below.refl _ _⟩
    have h1 := Hl.out
    have h2 := Hl2.out
    constructor
    · intro h; cases h
    · rintro rfl; omega
end Go.Proofs.Ytcbngjpihcemiaa

/- check.Open, walked; lives of layer 2. -/
namespace Go.Proofs.Ytcbngjpihcemiaa
open Go.RowKit

/-- Sealed bytes without their sum. -/
def openL (l : List UInt8) : Option (List UInt8) := if 4 ≤ l.length ∧ sealL (l.take (l.length - 4)) = l then some (l.take (l.length - 4)) else none
/-- What Open leaves. -/
def OpenE (w : World) (l : List UInt8) (e : Ending) (w' : World) : Prop :=
  ∃ v, e = .returned (.tuple #[v, .bool (openL l).isSome]) ∧ (openL l = none → v = .slice none 0 0) ∧ (∀ b, openL l = some b → w'.ownsRow w.heap.size 5 1 v b.length (vb b)) ∧ Below w.heap.size w w'

set_option maxHeartbeats 1000000 in
set_option maxRecDepth 100000 in
theorem copen_any (A : Option Addr) (n c : Nat) (l : List UInt8) (w : World) (hl : l.length = n) (hn : n ≤ c) (hm : c ≤ maxLen) (hA : A = none → n = 0) (hr : Rd w w.heap.size A (vb l)) (hsz : n ≤ 35184372088832) :
    Calls Try.prog 145 #[.slice A n c] w (OpenE w l) := by
  unfold maxLen at hm
  by_cases h4 : n < 4
  · have ho : openL l = none := by unfold openL; rw [if_neg (by omega)]
    have Ho := Lib.hid ho
    clear ho hl
    go_enter Try.func145, Try.ntmps145
    go_wp2_with fail
    go_ret2
    refine ⟨.slice none 0 0, ?_, fun _ => rfl, fun b hb => ?_, Below.refl _ _⟩
    · rw [Ho.out]; rfl
    · rw [Ho.out] at hb; cases hb
  · obtain ⟨m, rfl⟩ : ∃ m, n = m + 4 := ⟨n - 4, by omega⟩
    have hbl : (l.take m).length = m := by rw [List.length_take]; omega
    have hrb : Rd w w.heap.size A (vb (l.take m)) := by rw [vb_take]; exact hr.take m
    have hAb : A = none → m = 0 := fun h => by have := hA h; omega
    have ho : openL l = if sealL (l.take m) = l then some (l.take m) else none := by
      unfold openL
      rw [show l.length - 4 = m by omega]
      by_cases h : sealL (l.take m) = l
      · rw [if_pos ⟨by omega, h⟩, if_pos h]
      · rw [if_neg (fun x => h x.2), if_neg h]
    have Ho := Lib.hid ho
    have Hl := Lib.hid hl
    have Hbl := Lib.hid hbl
    clear ho hl hA hbl
    have hcast : ((m + 4 : Nat) : Int) - 4 = (m : Int) := by omega
    go_enter Try.func145, Try.ntmps145
    go_wp2_with fail
    refine (seal_any A m c (l.take m) w Hbl.out (by omega) (by unfold maxLen; omega) hAb hrb (by omega)).mono ?_
    rintro e w1 ⟨v, rfl, hown, hb1⟩
    obtain ⟨A1, c1, rfl, hc1, hm1, _, hr1⟩ := own_shape hown (by unfold maxLen; omega)
    clear hown
    go_wp2_with fail
    refine (equal_any A1 (m + 4) c1 (sealL (l.take m)) A (m + 4) c l w1 (by rw [sealL_length, Hbl.out]) hr1 Hl.out (hr.below_ hb1) (by omega) (by omega)).mono ?_
    rintro e w2 ⟨r, rfl, hiff, hb2⟩
    have hb := below_tr hb1 hb2
    by_cases hs : sealL (l.take m) = l
    · obtain rfl : r = true := hiff.2 hs
      have ho := Ho.out
      rw [if_pos hs] at ho
      have Ho2 := Lib.hid ho
      clear ho Ho hs hiff
      go_wp2_with fail
      refine (clone_any A m c w2.heap.size (l.take m) w2 Hbl.out (by omega) hAb (hrb.below_ hb)).mono ?_
      rintro e w3 ⟨v, rfl, hown3, hb3⟩
      go_wp2_with fail
      go_ret2
      refine ⟨v, by rw [Ho2.out]; rfl, fun h => ?_, fun b h => ?_, below_tr hb hb3⟩
      · rw [Ho2.out] at h; cases h
      · rw [Ho2.out] at h
        obtain rfl : l.take m = b := by injection h
        rw [Hbl.out]
        exact own_mono hown3 hb.size
    · obtain rfl : r = false := by
        cases r
        · rfl
        · exact absurd (hiff.1 rfl) hs
      have ho := Ho.out
      rw [if_neg hs] at ho
      have Ho2 := Lib.hid ho
      clear ho Ho hs hiff
      go_wp2_with fail
      go_ret2
      refine ⟨.slice none 0 0, ?_, fun _ => rfl, fun b hb => ?_, hb⟩
      · rw [Ho2.out]; rfl
      · rw [Ho2.out] at hb; cases hb
end Go.Proofs.Ytcbngjpihcemiaa

/- Blocks of a segment: sealed bytes opened, by the program and by the document. -/
namespace Go.Proofs.Ytcbngjpihcemiaa
open Go.RowKit

theorem vrs_one {μ : Ren} {v : Value} {rargs : Array Value} (h : VRs μ [v] rargs.toList) : ∃ rv, rargs = #[rv] ∧ VR μ v rv := by
  cases rargs with
  | mk l =>
    simp only at h
    cases h with
    | cons h1 h2 =>
      cases h2
      exact ⟨_, rfl, h1⟩
set_option maxHeartbeats 4000000 in
set_option maxRecDepth 100000 in
set_option linter.unusedSimpArgs false in
theorem g_copen (H : Hp) (p : Option Addr) (n c : Nat) (L : List UInt8) (hb : BS H (.slice p n c) L) (hn : n ≤ 35184372088832) : GCalls Try.prog 145 [.slice p n c] [] H fun v H' => (∃ p' n' c', v = .tuple #[.slice p' n' c', .bool (openL L).isSome] ∧ BS H' (.slice p' n' c') ((openL L).getD [])) ∧ HExt [] H H' := fun μ w rargs hs hv => by
  obtain ⟨rv, rfl, hv2⟩ := vrs_one hv
  obtain ⟨A, c', rfl, q1, q2, q3, q4, q5⟩ := bs_real hb hs hv2
  refine (copen_any A n c' L w q1 q2 q3 q4 q5 hn).mono ?_
  rintro e w' ⟨v, rfl, k1, k2, k3⟩
  cases ho : openL L with
  | none =>
    obtain rfl := k1 ho
    exact ⟨.tuple #[.slice none 0 0, .bool false], _, H, μ, rfl, ⟨⟨none, 0, 0, rfl, .none⟩, HExt.refl _ _⟩, .tuple (.cons .sl0 (.cons (.bool _) .nil)), hs.below k3, Ext'.refl μ, Frm.of_below k3 _, fun i M hi hM => by have := (hs.len i M hM).1; omega, Nat.le_refl _, fun _ _ _ h => h⟩
  | some b =>
    obtain ⟨μ', H', p', c2, g1, g2, g3, g4, g5, g6, g7⟩ := hs.ownB k3 (k2 b ho)
    exact ⟨.tuple #[.slice p' b.length c2, .bool true], _, H', μ', rfl, ⟨⟨p', _, c2, rfl, g4⟩, g3⟩, .tuple (.cons g5 (.cons (.bool _) .nil)), g1, g2, Frm.of_below k3 _, fun i M hi hM => .inr (g6 i M hi hM), g3.len, g7⟩
set_option maxHeartbeats 4000000 in
set_option maxRecDepth 100000 in
set_option linter.unusedSimpArgs false in
theorem g_rseal (H : Hp) (p : Option Addr) (n c : Nat) (L : List UInt8) (hb : BS H (.slice p n c) L) (hn : n ≤ 35184372088832) : GCalls Try.prog 146 [.slice p n c] [] H (fun v H' => v = .slice (some ⟨H.length, 0, none⟩) (n + 4) capU ∧ H' = H.push ⟨5, 1, vb (sealL L), true⟩) :=
  GCalls.own1 hb (by omega) fun A c' w h1 _ _ _ h5 => rseal_any A n c' L w h1 h5 hn
set_option maxHeartbeats 4000000 in
set_option maxRecDepth 100000 in
set_option linter.unusedSimpArgs false in
theorem g_rseal2 (H : Hp) (p : Option Addr) (n c : Nat) (L : List UInt8) (hb : BS H (.slice p n c) L) (hn : n ≤ 35184372088832) : GCalls Try.prog 146 [.slice p n c] [] H (fun v H' => ∃ p' c', v = .slice p' (n + 4) c' ∧ BS H' (.slice p' (n + 4) c') (sealL L) ∧ HExt [] H H') :=
  (g_rseal H p n c L hb hn).mono fun v H' ⟨e1, e2⟩ => by
    subst e1 e2
    exact ⟨_, _, rfl, bs_push rfl (by rw [sealL_length, hb.len]), (HExt.refl _ _).push⟩
theorem open_none {L : List UInt8} (h : (L.length : Int) < 4) : openL L = none := if_neg fun e => by omega
end Go.Proofs.Ytcbngjpihcemiaa

/- The ghost walk: regions that draw their order, of which the last operations come last. Over any program. -/
namespace Go.Proofs.Ytcbngjpihcemiaa
open Go.RowKit

theorem still_of_quiet {P : Program} {ops : Array Oper} {w : World} {K : Act → Prop} : ∀ (l : List Oper) (a : Act), wpQuiet P ops (fun x => x = w) K l a → wpStill P ops w K l a
  | [], _, h => h
  | o :: l, a, h => by
    unfold wpQuiet at h
    unfold wpStill
    split at h
    · rename_i hw
      rw [if_pos hw]
      obtain ⟨v, hv, hk⟩ := h
      have h1 := hv w rfl
      unfold Oper.quietAt at h1
      unfold Oper.still
      have ih := still_of_quiet l _ hk
      revert h1
      generalize (execOp a.eval o).run P w = r
      intro h1
      unfold Oper.quietUpon at h1
      unfold Oper.stillUpon
      split at h1
      · obtain ⟨rfl, rfl⟩ := h1
        exact ⟨rfl, ih⟩
      · obtain ⟨rfl, rfl⟩ := h1
        exact ⟨rfl, ih⟩
      · obtain ⟨rfl, h2⟩ := h1
        exact ⟨rfl, v, h2, ih⟩
      · exact h1.elim
    · rename_i hw
      rw [if_neg hw]
      exact still_of_quiet l _ h
theorem GWP.drawT {P : Program} {N : Nat} {C : Ctx} {Q : Exit → Env → Hp → Prop} {env : Env} {H : Hp} {id : Nat} {l : List Oper} (n : Nat) {L M : List Oper} (hm : P.follows .mixedOrders = true) (hB : Region.lexTailB .any l.toArray n = true) (hL : l.take n = L) (hM : l.drop n = M)
    (h : GQ P N C l.toArray true [] (fun env' => GOps P N C l.toArray Q M env' H) L env H) : GWP P N C (.region id l.toArray true) Q env H := fun w0 Fr μ0 μ a w hs' he => by
  subst hL hM
  have hs2 : Sim C w0 Fr μ0 μ H w.drew := ⟨hs'.h.drew, hs'.ext, hs'.frm.drew, hs'.old, hs'.new, hs'.len, hs'.back⟩
  exact wp_region_still_tail n hm hB (still_of_quiet _ _ (h w0 Fr μ0 μ a w.drew _ hs2 he fun env' a' he' hk => hk w0 Fr μ0 μ a' w.drew hs2 he'))
theorem GPcs.sto {P : Program} {N : Nat} {C : Ctx} {Q : Exit → Env → Hp → Prop} {env : Env} {H : Hp} {ops : Array Oper} {tl : Bool} {Prt : List Nat} {o : Oper} {segs : List Seg} {i j : Nat} {b : Bool} {v0 : Value} {H0 : Hp} (tl2 : Bool) (Prt2 : List Nat) (ho : ops[i]? = some o) (hw : gwant ops env o = some b) (hb : b = true) (hd : o.dst = none) (h : GOp P ⟨[j], H.length⟩ o env H (fun v H' => v = v0 ∧ H' = H0))
    (htl : tl = false) (hF : ∀ q ∈ [j], ∃ c, H.at q = some c ∧ c.rw = true) (hm : C.may j) (hP : ∀ q ∈ Prt, (∃ c, H.at q = some c) ∧ q ∉ [j]) (hP2 : ∀ q ∈ Prt, q ∈ Prt2)
    (hp : ∀ q ∈ Prt2, q < H0.length) (k : GPcs P N C ops Q tl2 Prt2 segs env H0) : GPcs P N C ops Q tl Prt (.write i :: segs) env H := fun w0 Fr μ0 μ a w hs he hpp => by
  subst htl
  obtain ⟨c0, hc0, hrw0⟩ := hF j (by simp)
  refine wpPcs_write ho fun K hK => ?_
  rw [gwant_real he hw, if_pos hb]
  refine (GOpF.of (C := C) [j] (fun q hq => by rw [List.mem_singleton.1 hq]; exact Hp.at_lt hc0) (fun q hq => by rw [List.mem_singleton.1 hq]; exact hm) h) N w0 Fr μ0 μ a w K _ hs he fun v rv H' w' μ' hR hs' hx hv hfr hl hbk => ?_
  obtain ⟨rfl, rfl⟩ := hR
  have hfar : ∀ q ∈ Prt, ∀ L, μ q = some L → w'.heap[L.g]? = w.heap[L.g]? := fun q hq L hL => by
    obtain ⟨⟨c, hc⟩, hjF⟩ := hP q hq
    refine hfr.block _ (hs.h.len q L hL).2 fun hm => ?_
    obtain ⟨r, M, q1, q2, q3⟩ := img_mem hm
    obtain ⟨c', hc', hrw⟩ := hF r q1
    have := hs.h.inj r q c' c M L hc' hc q2 hL q3 (.inl hrw)
    subst this
    exact hjF q1
  have hsub : ∀ x, Cl μ' Prt2 w' x → Cl μ Prt w x := fun x hx2 q hq L hL => (hx2 q (hP2 q hq) L (hx q L hL)).trans (hfar q hq L hL)
  have hER := he.mono hx
  have ha : a.put o.dst rv = a := by rw [hd]; rfl
  rw [ha]
  refine hK (Cw tl2 μ' Prt2 w') _ w' (fun x hx2 => ?_) (Cw.self _ _ _ _) (k w0 Fr μ0 μ' _ w' hs' hER hp)
  show Cl μ Prt w x
  cases tl2 with
  | true =>
    obtain rfl : x = w' := hx2
    exact hfar
  | false => exact hsub x hx2
/-- One that writes comes up; the blocks in which reads may float behind are chosen behind it. -/
theorem GPcs.writeD {P : Program} {N : Nat} {C : Ctx} {Q : Exit → Env → Hp → Prop} {env : Env} {H : Hp} {ops : Array Oper} {tl : Bool} {Prt : List Nat} {o : Oper} {segs : List Seg} {i : Nat} {b : Bool} {d : Nat} {F : List Nat} {R : Value → Hp → Prop} (tl2 : Bool) (ho : ops[i]? = some o) (hw : gwant ops env o = some b) (hb : b = true) (hd : o.dst = some d) (hN : Nat.blt d N = true) (h : GOpF P C o env F H R)
    (htl : tl = false) (hF : ∀ j ∈ F, ∃ c, H.at j = some c ∧ c.rw = true) (hP : ∀ j ∈ Prt, (∃ c, H.at j = some c) ∧ j ∉ F)
    (k : ∀ v H', R v H' → ∃ Prt2 : List Nat, (∀ j ∈ Prt, j ∈ Prt2) ∧ (∀ j ∈ Prt2, j < H'.length) ∧ GPcs P N C ops Q tl2 Prt2 segs ((d, v) :: env) H') : GPcs P N C ops Q tl Prt (.write i :: segs) env H := fun w0 Fr μ0 μ a w hs he hp => by
  subst htl
  refine wpPcs_write ho fun K hK => ?_
  rw [gwant_real he hw, if_pos hb]
  refine h N w0 Fr μ0 μ a w K _ hs he fun v rv H' w' μ' hR hs' hx hv hfr hl hbk => ?_
  obtain ⟨Prt2, hP2, k1, k2⟩ := k v H' hR
  have hfar : ∀ j ∈ Prt, ∀ L, μ j = some L → w'.heap[L.g]? = w.heap[L.g]? := fun j hj L hL => by
    obtain ⟨⟨c, hc⟩, hjF⟩ := hP j hj
    refine hfr.block _ (hs.h.len j L hL).2 fun hm => ?_
    obtain ⟨q, M, q1, q2, q3⟩ := img_mem hm
    obtain ⟨c', hc', hrw⟩ := hF q q1
    have := hs.h.inj q j c' c M L hc' hc q2 hL q3 (.inl hrw)
    subst this
    exact hjF q1
  have hsub : ∀ x, Cl μ' Prt2 w' x → Cl μ Prt w x := fun x hx2 j hj L hL => (hx2 j (hP2 j hj) L (hx j L hL)).trans (hfar j hj L hL)
  have hER := (he.mono hx).put (d := d) (by rw [← Nat.blt_eq]; exact hN) hv
  rw [← hd] at hER
  refine hK (Cw tl2 μ' Prt2 w') _ w' (fun x hx2 => ?_) (Cw.self _ _ _ _) (k2 w0 Fr μ0 μ' _ w' hs' (by rw [hd] at hER ⊢; exact hER) k1)
  show Cl μ Prt w x
  cases tl2 with
  | true =>
    obtain rfl : x = w' := hx2
    exact hfar
  | false => exact hsub x hx2
end Go.Proofs.Ytcbngjpihcemiaa

/- Power that does not fall, on the ghost side. -/
namespace Go.Proofs.Ytcbngjpihcemiaa
open Go.RowKit

/-- A power's block: on, nothing planned. -/
def pwB (c : Int) : Blk := ⟨141, 1, [.bool false, .int .i64 0, .int .i64 0, .bool false, .int .i64 c], true⟩
set_option maxHeartbeats 4000000 in
set_option maxRecDepth 100000 in
set_option linter.unusedSimpArgs false in
theorem g_pnew0 (H : Hp) : GCalls Try.prog 15 [] [] H fun v H' => v = .pointer (some ⟨H.length, 0, none⟩) ∧ H' = H.push (pwB 0) := by
  unfold pwB
  refine GCalls.body tab_is Try.func15 rfl Try.results15 Try.ntmps15 (by simp) ?_ ?_
  · first | (intro _ h; cases h; done) | (simp; done) | (simp; omega) | (intro i hi; simp at hi; rcases hi with rfl | rfl <;> omega) | (intro i hi; simp at hi; rcases hi with rfl | rfl | rfl <;> omega)
  focus
    refine GWP.seq ?_
    refine GWP.region ?_
    refine GOps.r rfl rfl rfl rfl (grd_assign rfl rfl) ?_
    refine GOps.nil ?_
    refine GWP.seq ?_
    refine GWP.region ?_
    focus
      refine GOps.r rfl rfl rfl rfl (grd_build (cs := ?_) tab_is rfl rfl rfl ?_ rfl ?_) ?_
      rotate_left 1
      · decide
      · simp [gfill, gsets, Value.cells]; rfl
    focus
      refine GOps.w1 rfl rfl rfl rfl (gop_box' (id := ?_) ?_ rfl rfl rfl) ?_
      rotate_left 1
      · rfl
    refine GOps.r rfl rfl rfl rfl (grd_assign rfl rfl) ?_
    refine GOps.nil ?_
    refine GWP.ret ?_
    refine ⟨_, .one rfl, ?_⟩
    refine ⟨?_, ?_⟩
    · rfl
    · rfl
set_option maxHeartbeats 4000000 in
set_option maxRecDepth 100000 in
set_option linter.unusedSimpArgs false in
theorem g_pon0 (H : Hp) (i : Nat) (c : Int) (h : H.at i = some (pwB c)) : GCalls Try.prog 33 [.pointer (some ⟨i, 0, none⟩)] [] H fun v H' => v = .bool true ∧ H' = H := by
  unfold pwB at h
  refine GCalls.body tab_is Try.func33 rfl Try.results33 Try.ntmps33 (by simp) ?_ ?_
  · first | (intro _ h; cases h; done) | (simp; done) | (simp; omega) | (intro i hi; simp at hi; rcases hi with rfl | rfl <;> omega) | (intro i hi; simp at hi; rcases hi with rfl | rfl | rfl <;> omega)
  focus
    refine GWP.seq ?_
    refine GWP.region ?_
    refine GOps.r rfl rfl rfl rfl (grd_assign rfl rfl) ?_
    refine GOps.nil ?_
    refine GWP.seq ?_
    refine GWP.region ?_
    refine GOps.r rfl rfl rfl rfl (grd_move rfl rfl) ?_
    refine GOps.r rfl rfl rfl rfl (grd_pneq tab_is rfl rfl rfl rfl rfl) ?_
    refine GOps.r rfl rfl rfl rfl (grd_move rfl rfl) ?_
    refine GOps.take rfl rfl ?_ ?_
    · simp; done
    refine GOps.r rfl rfl rfl rfl (grd_move rfl rfl) ?_
    refine GOps.take rfl rfl ?_ ?_
    · simp; done
    refine GOps.r rfl rfl rfl rfl (grd_nil rfl rfl) ?_
    refine GOps.take rfl rfl ?_ ?_
    · simp; done
    refine GOps.r rfl rfl rfl rfl (grd_fieldAddr tab_is rfl rfl rfl rfl rfl) ?_
    refine GOps.take rfl rfl ?_ ?_
    · simp; done
    focus
      refine GOps.r rfl rfl rfl rfl (grd_load1 (b := ?_) (v := ?_) tab_is rfl rfl rfl rfl ?_ ?_) ?_
      rotate_left 2
      · assumption
      · rfl
    refine GOps.take rfl rfl ?_ ?_
    · simp; done
    refine GOps.r rfl rfl rfl rfl (grd_not rfl rfl) ?_
    refine GOps.r rfl rfl rfl rfl (grd_pick_t rfl rfl ?_ rfl) ?_
    · simp; done
    refine GOps.r rfl rfl rfl rfl (grd_assign rfl rfl) ?_
    refine GOps.nil ?_
    refine GWP.ret ?_
    refine ⟨_, .one rfl, ?_⟩
    refine ⟨?_, ?_⟩
    · rfl
    · rfl
set_option maxHeartbeats 4000000 in
set_option maxRecDepth 100000 in
set_option linter.unusedSimpArgs false in
theorem g_pwrite0 (H : Hp) (i : Nat) (c : Int) (h : H.at i = some (pwB c)) (hc : 0 ≤ c ∧ c < 1000000) (n : Int) (hn : 0 ≤ n) : GCalls Try.prog 135 [.pointer (some ⟨i, 0, none⟩), .int .i64 n] [i] H fun v H' => v = .tuple #[.int .i64 n, .int .i64 0] ∧ H' = H.put i (pwB (c + 1)) := by
  have hO := g_pon0 H i c h
  have hi := Hp.at_lt h
  unfold pwB at h ⊢
  refine GCalls.body tab_is Try.func135 rfl Try.results135 Try.ntmps135 (by simp) ?_ ?_
  · first | (intro _ h; cases h; done) | (simp; done) | (simp; omega) | (intro i hi; simp at hi; rcases hi with rfl | rfl <;> omega) | (intro i hi; simp at hi; rcases hi with rfl | rfl | rfl <;> omega)
  focus
    refine GWP.seq ?_
    refine GWP.region ?_
    refine GOps.r rfl rfl rfl rfl (grd_assign rfl rfl) ?_
    refine GOps.r rfl rfl rfl rfl (grd_assign rfl rfl) ?_
    refine GOps.nil ?_
    refine GWP.seq ?_
    refine GWP.block ?_
    refine GWP.seq ?_
    refine GWP.region ?_
    refine GOps.r rfl rfl rfl rfl (grd_move rfl rfl) ?_
    refine GOps.r rfl rfl rfl rfl (grd_lss rfl rfl rfl) ?_
    refine GOps.r rfl rfl rfl rfl (grd_assign rfl rfl) ?_
    refine GOps.nil ?_
    refine GWP.cond_f rfl ?_ ?_
    · exact decide_eq_false (by omega)
    refine GWP.seq ?_
    refine GWP.region ?_
    refine GOps.r rfl rfl rfl rfl (grd_move rfl rfl) ?_
    refine GOps.w1 rfl rfl rfl rfl (gop_call rfl Try.call33 rfl ?_ (hO)) ?_
    · intro _ h; cases h; done
    refine GOps.r rfl rfl rfl rfl (grd_not rfl rfl) ?_
    refine GOps.r rfl rfl rfl rfl (grd_assign rfl rfl) ?_
    refine GOps.nil ?_
    refine GWP.cond_f rfl ?_ ?_
    · simp; done
    refine GWP.skip ?_
    refine GWP.seq ?_
    refine GWP.region ?_
    refine GOps.r rfl rfl rfl rfl (grd_move rfl rfl) ?_
    refine GOps.r rfl rfl rfl rfl (grd_nil rfl rfl) ?_
    refine GOps.r rfl rfl rfl rfl (grd_fieldAddr tab_is rfl rfl rfl rfl rfl) ?_
    focus
      refine GOps.r rfl rfl rfl rfl (grd_load1 (b := ?_) (v := ?_) tab_is rfl rfl rfl rfl ?_ ?_) ?_
      rotate_left 2
      · assumption
      · rfl
    refine GOps.r rfl rfl rfl rfl (grd_add64 rfl rfl rfl ?_) ?_
    · omega
    refine GOps.r rfl rfl rfl rfl (grd_nil rfl rfl) ?_
    refine GOps.r rfl rfl rfl rfl (grd_fieldAddr tab_is rfl rfl rfl rfl rfl) ?_
    focus
      refine GOps.s rfl rfl rfl (gop_store1 (b := ?_) tab_is rfl rfl rfl rfl rfl rfl ?_ ?_ ?_ ?_) ?_
      rotate_left 1
      · assumption
      · rfl
      · exact Nat.le_of_ble_eq_true rfl
      · exact .inl (by simp)
    refine GOps.nil ?_
    refine GWP.seq ?_
    refine GWP.block ?_
    refine GWP.seq ?_
    refine GWP.region ?_
    refine GOps.r rfl rfl rfl rfl (grd_move rfl rfl) ?_
    refine GOps.r rfl rfl rfl rfl (grd_nil rfl rfl) ?_
    refine GOps.r rfl rfl rfl rfl (grd_fieldAddr tab_is rfl rfl rfl rfl rfl) ?_
    focus
      refine GOps.r rfl rfl rfl rfl (grd_load1 (b := ?_) (v := ?_) tab_is rfl rfl rfl rfl ?_ ?_) ?_
      rotate_left 2
      refine Hp.at_put_eq ?_
      · omega
      · rfl
    refine GOps.r rfl rfl rfl rfl (grd_not rfl rfl) ?_
    refine GOps.r rfl rfl rfl rfl (grd_assign rfl rfl) ?_
    refine GOps.nil ?_
    refine GWP.cond_t rfl ?_ ?_
    · simp; done
    refine GWP.seq ?_
    refine GWP.region ?_
    refine GOps.r rfl rfl rfl rfl (grd_move rfl rfl) ?_
    refine GOps.r rfl rfl rfl rfl (grd_assign rfl rfl) ?_
    refine GOps.r rfl rfl rfl rfl (grd_assign rfl rfl) ?_
    refine GOps.nil ?_
    refine GWP.ret ?_
    refine ⟨_, .two (.one rfl) (.one rfl), ?_⟩
    refine ⟨?_, ?_⟩
    · rfl
    · rfl
end Go.Proofs.Ytcbngjpihcemiaa

/- A block hidden from a call. Over any program. -/
namespace Go.Proofs.Ytcbngjpihcemiaa
open Go.RowKit

section
variable {P : Program} {H : Hp}
/-- What a call does where a block is forgotten, it does where it is known; and that block stays as it is. -/
theorem GCalls.hide {f : FuncId} {args : List Value} {F : List Nat} {R : Value → Hp → Prop} {j : Nat} {b : Blk} (hb : H.at j = some b) (hF : ∀ i ∈ F, i ≠ j ∧ ∃ c, H.at i = some c ∧ (b.rw = true ∨ c.rw = true)) (h : GCalls P f args F (H.kill j) R) (hx : ∀ v H', R v H' → HExt F (H.kill j) H') : GCalls P f args F H (fun v H' => ∃ H1, R v H1 ∧ H1.at j = none ∧ H' = H1.put j b) := fun μ w rargs hs hv => by
  have hlt := Hp.at_lt hb
  refine (h μ w rargs (hs.kill j) hv).mono ?_
  rintro e w' ⟨v, rv, H1, μ', q1, q2, q3, q4, q5, q6, q7, q8, q9⟩
  have hk := hx _ _ q2
  have hlk : (H.kill j).length = H.length := Hp.len_kill
  rw [hlk] at q7 q8 q9
  have hj : H1.at j = none := by rw [hk.eq j (by rw [hlk]; exact hlt) (fun hm => (hF j hm).1 rfl), Hp.at_kill_eq]
  obtain ⟨L, rs, t, fz, d1, d2, d3, d4, d5, d6, d7⟩ := hs.dom j b hb
  have hni : L.g ∉ img μ F := fun hm => by
    obtain ⟨i, M, m1, m2, m3⟩ := img_mem hm
    obtain ⟨n1, c, n2, n3⟩ := hF i m1
    exact n1 (hs.inj i j c b M L n2 hb m2 d1 m3 n3.symm)
  have hL := (hs.len j L d1).2
  have key : ∀ k c' M', k ≠ j → H1.at k = some c' → μ' k = some M' → L.g = M'.g → (b.rw = true ∨ c'.rw = true) → False := fun k c' M' hne hc hM hg hr => by
    rcases Nat.lt_or_ge k H.length with h1 | h1
    · have hm := q9 k M' h1 hM
      by_cases hkF : k ∈ F
      · exact hni (by rw [hg]; exact mem_img hkF hm)
      · rw [hk.eq k (by rw [hlk]; exact h1) hkF, Hp.at_kill_ne (Ne.symm hne)] at hc
        exact hne (hs.inj j k b c' L M' hb hc d1 hm hg hr).symm
    · rcases q7 k M' h1 hM with h2 | h2
      · exact hni (by rw [hg]; exact h2)
      · omega
  refine ⟨v, rv, H1.put j b, μ', q1, ⟨H1, q2, hj, rfl⟩, q3, ⟨fun i c hc => ?_, fun i M hM => ?_, fun i k c c' M M' hi hk' hM hM' hg hr => ?_⟩, q5, q6, q7, by rw [Hp.len_put]; exact q8, q9⟩
  · by_cases e1 : j = i
    · subst e1
      rw [Hp.at_put_eq (by omega)] at hc
      injection hc with hc
      subst hc
      exact ⟨L, rs, t, fz, q5 _ _ d1, d2, (q6.block _ hL hni).trans d3, d4, d5, d6.mono q5, d7⟩
    · rw [Hp.at_put_ne e1] at hc
      exact q4.dom i c hc
  · rw [Hp.len_put]
    exact q4.len i M hM
  · have hjL := q5 _ _ d1
    by_cases e1 : j = i
    · subst e1
      rw [hjL] at hM
      injection hM with hM
      subst hM
      rw [Hp.at_put_eq (by omega)] at hi
      injection hi with hi
      subst hi
      by_cases e2 : j = k
      · exact e2
      · rw [Hp.at_put_ne e2] at hk'
        exact (key k c' M' (Ne.symm e2) hk' hM' hg hr).elim
    · rw [Hp.at_put_ne e1] at hi
      by_cases e2 : j = k
      · subst e2
        rw [hjL] at hM'
        injection hM' with hM'
        subst hM'
        rw [Hp.at_put_eq (by omega)] at hk'
        injection hk' with hk'
        subst hk'
        exact (key i c M (Ne.symm e1) hi hM hg.symm hr.symm).elim
      · rw [Hp.at_put_ne e2] at hk'
        exact q4.inj i k c c' M M' hi hk' hM hM' hg hr
end
section
variable {H H1 : Hp} {j : Nat} {b : Blk} {v : Value} {L : List UInt8}
/-- Bytes elsewhere. -/
theorem bs_off (h : BS H1 v L) (hj : H1.at j = none) (b : Blk) : BS (H1.put j b) v L := by
  cases h with
  | none => exact .none
  | some hb hs hl ho hu => exact .some ((Hp.at_put_ne (by rintro rfl; rw [hj] at hb; cases hb)).trans hb) hs hl ho hu
/-- Bytes of a heap in which a block is forgotten. -/
theorem bs_unk {p : Option Addr} {n c : Nat} (h : BS H (.slice p n c) L) (hp : ∀ a, p = some a → a.block ≠ j) : BS (H.kill j) (.slice p n c) L := by
  cases h with
  | none => exact .none
  | some hb hs hl ho hu => exact .some ((Hp.at_kill_ne (Ne.symm (hp _ rfl))).trans hb) hs hl ho hu
theorem HExt.unkill {F : List Nat} (h : HExt F (H.kill j) H1) (hb : H.at j = some b) : HExt F H (H1.put j b) := by
  refine ⟨by rw [Hp.len_put]; have := h.len; rw [Hp.len_kill] at this; exact this, fun i hi hn => ?_⟩
  by_cases e : j = i
  · subst e
    rw [Hp.at_put_eq (by have := h.len; rw [Hp.len_kill] at this; omega), hb]
  · rw [Hp.at_put_ne e, h.eq i (by rw [Hp.len_kill]; exact hi) hn, Hp.at_kill_ne e]
end
end Go.Proofs.Ytcbngjpihcemiaa

/- Readers beside other blocks. -/
namespace Go.Proofs.Ytcbngjpihcemiaa
open Go.RowKit

theorem bs_pushed {H : Hp} {b : Blk} {v : Value} {L : List UInt8} (h : BS H v L) : BS (H.push b) v L := h.ext (HExt.refl _ _).push
theorem bs_low {H H1 : Hp} {j : Nat} {b : Blk} {v : Value} {L : List UInt8} (q1 : BS H1 v L) (q : BS H v L) (hj : H.length ≤ j) : BS (H1.put j b) v L := by
  cases q with
  | none => exact .none
  | some hb _ _ _ _ =>
    have hlt := Hp.at_lt hb
    cases q1 with
    | some hb1 hs hl ho hu => exact .some ((Hp.at_put_ne (by omega)).trans hb1) hs hl ho hu
theorem rg_off {T : TypeId} {H : Hp} {g j : Nat} {p : Option Addr} {c : Nat} {s : RdS} (h : RG T H g p c s) (hj : H.at j = none) (b : Blk) : RG T (H.put j b) g p c s := ⟨(Hp.at_put_ne (by rintro rfl; rw [h.hg] at hj; cases hj)).trans h.hg, bs_off h.hb hj b, h.hl⟩
theorem rg_kill {H : Hp} {T : TypeId} {g j : Nat} {p : Option Addr} {c : Nat} {s : RdS} (h : RG T H g p c s) (hne : j ≠ g) (hp : ∀ a, p = some a → a.block ≠ j) : RG T (H.kill j) g p c s := ⟨(Hp.at_kill_ne hne).trans h.hg, bs_unk h.hb hp, h.hl⟩
theorem bsk_low {H H1 : Hp} {j : Nat} {b : Blk} (h : BSk H H1) (hj : H.length ≤ j) : BSk H (H1.put j b) := fun v L q => bs_low (h v L q) q hj
theorem bsk_no {H H1 : Hp} {j : Nat} {b b' : Blk} (h : BSk H H1) (hb : H1.at j = some b) (hno : allU8 b.cs = false) : BSk H (H1.put j b') := fun v L q => bs_put hb hno (h v L q)
theorem bsk_push {H H1 : Hp} {b : Blk} (h : BSk H H1) : BSk H (H1.push b) := h.trans (.of (HExt.refl _ _).push)
theorem bsk_tail {H H1 H2 : Hp} (h : BSk H H1) (k : HExt [] H1 H2) : BSk H H2 := h.trans (.of k)
set_option maxHeartbeats 4000000 in
set_option maxRecDepth 100000 in
set_option linter.unusedSimpArgs false in
theorem g_cloneF (H : Hp) (p : Option Addr) (n c : Nat) (L : List UInt8) (hb : BS H (.slice p n c) L) (hn : n ≤ 140737488355328) : GCalls Try.prog 125 [.slice p n c] [] H fun v H' => (∃ p' n' c', v = .slice p' n' c' ∧ BS H' (.slice p' n' c') L ∧ ∀ a, p' = some a → H.length ≤ a.block) ∧ HExt [] H H' := by
  have hl := hb.len
  rcases Nat.eq_zero_or_pos n with h0 | h0
  · subst h0
    obtain rfl : L = [] := List.eq_nil_of_length_eq_zero hl
    refine GCalls.body tab_is Try.func125 rfl Try.results125 Try.ntmps125 (by simp) ?_ ?_
    · first | (intro _ h; cases h; done) | (simp; done) | (simp; omega) | (intro i hi; simp at hi; rcases hi with rfl | rfl <;> omega) | (intro i hi; simp at hi; rcases hi with rfl | rfl | rfl <;> omega)
    focus
      refine GWP.seq ?_
      refine GWP.region ?_
      refine GOps.r rfl rfl rfl rfl (grd_assign rfl rfl) ?_
      refine GOps.nil ?_
      refine GWP.seq ?_
      refine GWP.seq ?_
      refine GWP.region ?_
      refine GOps.r rfl rfl rfl rfl (grd_move rfl rfl) ?_
      refine GOps.r rfl rfl rfl rfl (grd_sleql tab_is rfl rfl rfl rfl rfl) ?_
      refine GOps.nil ?_
      refine GWP.cond rfl (fun i1 => ?_) (fun i1 => ?_)
      simp at i1
      refine GWP.seq ?_
      refine GWP.region ?_
      refine GOps.r rfl rfl rfl rfl (grd_assign rfl rfl) ?_
      refine GOps.nil ?_
      refine GWP.ret ?_
      refine ⟨_, .one rfl, ?_⟩
      refine ⟨?_, ?_⟩
      · exact ⟨_, _, _, rfl, BS.none, fun _ h => by cases h⟩
      · exact HExt.refl _ _
      simp at i1
      refine GWP.skip ?_
      refine GWP.seq ?_
      refine GWP.region ?_
      focus
        refine GOps.w1 rfl rfl rfl rfl (gop_lit (id := ?_) (cs := ?_) ?_ tab_is rfl rfl rfl ?_ ?_ rfl ?_ ?_) ?_
        rotate_left 2
        · rfl
        · decide
        · decide
        · simp [gfill, gsets, Value.cells]; rfl
        · rfl
      refine GOps.r rfl rfl rfl rfl (grd_move rfl rfl) ?_
      focus
        refine GOps.w1 rfl rfl rfl rfl (gop_zeroB (L := ?_) (M := ?_) tab_is rfl rfl rfl rfl ?_ ?_ (gsrc_bs rfl rfl rfl ?_) ?_ ?_ ?_) ?_
        rotate_left 2
        refine bs_emptyE (b := ?_) ?_ ?_ ?_ ?_ ?_
        rotate_left 1
        · exact Hp.at_push_eq
        · rfl
        · decide
        · rfl
        · rfl
        · omega
        focus
          refine BS.ext (by assumption) ?_
          refine HExt.push ?_
          · exact HExt.refl _ _
        · exact BS.len (by assumption)
        · decide
        · decide
      refine GOps.r rfl rfl rfl rfl (grd_assign rfl rfl) ?_
      refine GOps.nil ?_
      refine GWP.ret ?_
      refine ⟨_, .one rfl, ?_⟩
      refine ⟨?_, ?_⟩
      rotate_left 1
      refine HExt.push ?_
      · exact HExt.refl _ _
    exact ⟨_, _, _, rfl, bs_empty (b := ⟨_, 1, _, _⟩) Hp.at_push_eq rfl (Nat.zero_le _) rfl, fun a h => by injection h with h; subst h; exact Nat.le_refl _⟩
  ·
    refine GCalls.body tab_is Try.func125 rfl Try.results125 Try.ntmps125 (by simp) ?_ ?_
    · first | (intro _ h; cases h; done) | (simp; done) | (simp; omega) | (intro i hi; simp at hi; rcases hi with rfl | rfl <;> omega) | (intro i hi; simp at hi; rcases hi with rfl | rfl | rfl <;> omega)
    focus
      refine GWP.seq ?_
      refine GWP.region ?_
      refine GOps.r rfl rfl rfl rfl (grd_assign rfl rfl) ?_
      refine GOps.nil ?_
      refine GWP.seq ?_
      refine GWP.seq ?_
      refine GWP.region ?_
      refine GOps.r rfl rfl rfl rfl (grd_move rfl rfl) ?_
      refine GOps.r rfl rfl rfl rfl (grd_sleql tab_is rfl rfl rfl rfl rfl) ?_
      refine GOps.nil ?_
      refine GWP.cond rfl (fun j1 => ?_) (fun j1 => ?_)
      simp at j1
      refine GWP.seq ?_
      refine GWP.region ?_
      refine GOps.r rfl rfl rfl rfl (grd_assign rfl rfl) ?_
      refine GOps.nil ?_
      refine GWP.ret ?_
      refine ⟨_, .one rfl, ?_⟩
      refine ⟨?_, ?_⟩
      rotate_left 1
      · exact HExt.refl _ _
      simp at j1
      refine GWP.skip ?_
      refine GWP.seq ?_
      refine GWP.region ?_
      focus
        refine GOps.w1 rfl rfl rfl rfl (gop_lit (id := ?_) (cs := ?_) ?_ tab_is rfl rfl rfl ?_ ?_ rfl ?_ ?_) ?_
        rotate_left 2
        · rfl
        · decide
        · decide
        · simp [gfill, gsets, Value.cells]; rfl
        · rfl
      refine GOps.r rfl rfl rfl rfl (grd_move rfl rfl) ?_
      focus
        refine GOps.w1 rfl rfl rfl rfl (gop_fullB (id := ?_) (L := ?_) (M := ?_) (K := ?_) ?_ tab_is rfl rfl rfl rfl ?_ ?_ ?_ (gsrc_bs rfl rfl rfl ?_) ?_ ?_ ?_ ?_) ?_
        rotate_left 4
        · simp; rfl
        refine bs_emptyE (b := ?_) ?_ ?_ ?_ ?_ ?_
        rotate_left 1
        · exact Hp.at_push_eq
        · rfl
        · decide
        · rfl
        · rfl
        · decide
        · omega
        focus
          refine BS.ext (by assumption) ?_
          refine HExt.push ?_
          · exact HExt.refl _ _
        · exact BS.len (by assumption)
        · simp only [List.nil_append]; rfl
        · omega
        · omega
      refine GOps.r rfl rfl rfl rfl (grd_assign rfl rfl) ?_
      refine GOps.nil ?_
      refine GWP.ret ?_
      refine ⟨_, .one rfl, ?_⟩
      refine ⟨?_, ?_⟩
      rotate_left 1
      refine HExt.push ?_
      refine HExt.push ?_
      · exact HExt.refl _ _
    · subst j1
      cases hb
      omega
    · exact ⟨_, _, _, rfl, bs_push (by simp) (by omega), fun a h => by injection h with h; subst h; exact Nat.le_succ _⟩
set_option maxHeartbeats 4000000 in
set_option maxRecDepth 100000 in
set_option linter.unusedSimpArgs false in
theorem g_vopenF (H : Hp) (p : Option Addr) (n c : Nat) (L : List UInt8) (hb : BS H (.slice p n c) L) (hn : n ≤ 140737488355328) : GCalls Try.prog 63 [.slice p n c] [] H fun v H' => (∃ g p' c', v = .pointer (some ⟨g, 0, none⟩) ∧ H.length ≤ g ∧ RG 199 H' g p' c' ⟨L, 0⟩ ∧ ∀ a, p' = some a → H.length ≤ a.block) ∧ HExt [] H H' := by
  have hl := hb.len
  refine GCalls.body tab_is Try.func63 rfl Try.results63 Try.ntmps63 (by simp) ?_ ?_
  · first | (intro _ h; cases h; done) | (simp; done) | (simp; omega) | (intro i hi; simp at hi; rcases hi with rfl | rfl <;> omega) | (intro i hi; simp at hi; rcases hi with rfl | rfl | rfl <;> omega)
  focus
    refine GWP.seq ?_
    refine GWP.region ?_
    refine GOps.r rfl rfl rfl rfl (grd_assign rfl rfl) ?_
    refine GOps.nil ?_
    refine GWP.seq ?_
    refine GWP.region ?_
    refine GOps.r rfl rfl rfl rfl (grd_move rfl rfl) ?_
    focus
      refine GOps.w rfl rfl rfl rfl (gop_call rfl Try.call125 rfl ?_ (g_cloneF _ _ _ _ ?_ ?_ ?_)) ?_
      · intro _ h; cases h; done
      rotate_left 1
      · assumption
      · omega
    rintro _ Hxk6 ⟨⟨pk1, nk2, ck3, rfl, bk4, fk5⟩, xk6⟩
    have xk6l := HExt.len xk6; try simp at xk6l
    focus
      refine GOps.r rfl rfl rfl rfl (grd_build (cs := ?_) tab_is rfl rfl rfl ?_ rfl ?_) ?_
      rotate_left 1
      · decide
      · simp [gfill, gsets, Value.cells]; rfl
    focus
      refine GOps.w1 rfl rfl rfl rfl (gop_box' (id := ?_) ?_ rfl rfl rfl) ?_
      rotate_left 1
      · rfl
    refine GOps.r rfl rfl rfl rfl (grd_assign rfl rfl) ?_
    refine GOps.nil ?_
    refine GWP.ret ?_
    refine ⟨_, .one rfl, ?_⟩
    refine ⟨?_, ?_⟩
    rotate_left 1
    refine HExt.push ?_
    · assumption
  have e := bk4.len
  subst e
  exact ⟨_, pk1, ck3, rfl, by simpa using xk6l, ⟨Hp.at_push_eq, bk4.ext (HExt.refl _ _).push, by simp only; omega⟩, fk5⟩
end Go.Proofs.Ytcbngjpihcemiaa

/- A store of what stands there, in a region that draws its order. -/
namespace Go.Proofs.Ytcbngjpihcemiaa
open Go.RowKit

section
variable {P : Program} {T : Tab} {C : Ctx} {o : Oper} {env : Env} {H : Hp} {x y : Operand} {t : TypeId} {i : TyI}
theorem setCell_same {w : World} {g k : Nat} {rs : Array Value} {t : TypeId} {fz : Nat × Nat} {v : Value} (h : w.heap[g]? = some (.cells rs t fz)) (hv : rs[k]? = some v) : w.setCell ⟨g, k, none⟩ v = w := by
  have hh : (w.setCell ⟨g, k, none⟩ v).heap = w.heap := by
    apply Array.ext_getElem?
    intro q
    simp only [World.setCell, Array.getElem?_modify]
    split
    · rename_i e
      subst e
      rw [h]
      simp only [Option.map_some, Option.isSome_none, Bool.false_eq_true, if_false]
      congr 2
      apply Array.ext_getElem?
      intro r
      rw [Array.getElem?_setIfInBounds]
      split
      · rename_i e
        subst e
        obtain ⟨hlt, hv⟩ := Array.getElem?_eq_some_iff.1 hv
        rw [if_pos hlt, Array.getElem?_eq_getElem hlt, hv]
      · rfl
    · rfl
  cases w
  simp only [World.setCell] at hh ⊢
  rw [hh]
theorem gopf_same {j off : Nat} {b : Blk} {v : Value} (hT : T.ok P) (ho : o.op = .store t x y) (ht : T t = some i) (hsz : i.size = 1) (hx : geval env x = some (.pointer (some ⟨j, off, none⟩))) (hy : geval env y = some v) (hp : plainB v = true) (h1 : v.oneCell' = true) (hb : H.at j = some b) (hrw : b.rw = true) (hoff : b.cs[off]? = some v) :
    GOpF P C o env [] H (fun u H' => u = undef ∧ H' = H) := fun N w0 Fr μ0 μ a w K Q hs he hk => by
  obtain ⟨L, rs, t2, fz, q1, q2, q3, q4, q5, q6, q7⟩ := hs.h.dom j b hb
  have hv := (he.eval hy).plain_eq hp
  have hlt : off < b.cs.length := (List.getElem?_eq_some_iff.1 hoff).1
  have hrs := q6.len (by omega)
  have hpa := (he.eval hx).addr q1
  obtain ⟨ti, k2, k3, _⟩ := Tab.size hT ht
  have hst := run_store1 (P := P) q3 (q4 hrw) (o := L.d + off) (v := v) (by omega) h1
  obtain ⟨v', g1, g2⟩ := q6 off v hoff
  have g3 := g2.plain_eq hp
  subst g3
  rw [setCell_same q3 g1] at hst
  have hcs : v'.cells = #[v'] := by cases v' <;> first | rfl | cases h1
  have hrun : (execOp a.eval o).run P w = .ok .skip w := by
    simp [execOp, ho, hpa, hv, Instr.storeAt, Instr.sureAddr, storeVar, hcs, run_size k2, k3, hsz, storeCells, addr_add, Sem.run_bind, hst]
  unfold Oper.wp
  rw [hrun]
  exact hk undef undef _ w μ ⟨rfl, rfl⟩ hs (Ext'.refl μ) (.tuple .nil) (Frm.refl _ _) (Nat.le_refl _) (fun _ _ _ h => h)
end
/-- A store of what stands there: reads of the block may float beside it. -/
theorem GPcs.same {P : Program} {N : Nat} {C : Ctx} {Q : Exit → Env → Hp → Prop} {env : Env} {H : Hp} {ops : Array Oper} {Prt : List Nat} {o : Oper} {segs : List Seg} {i : Nat} {b : Bool} {v0 : Value} {H0 : Hp} (tl2 : Bool) (ho : ops[i]? = some o) (hw : gwant ops env o = some b) (hb : b = true) (hd : o.dst = none) (h : GOpF P C o env [] H (fun v H' => v = v0 ∧ H' = H0))
    (hp : ∀ q ∈ Prt, q < H0.length) (k : GPcs P N C ops Q tl2 Prt segs env H0) : GPcs P N C ops Q false Prt (.write i :: segs) env H := fun w0 Fr μ0 μ a w hs he hpp => by
  refine wpPcs_write ho fun K hK => ?_
  rw [gwant_real he hw, if_pos hb]
  refine h N w0 Fr μ0 μ a w K _ hs he fun v rv H' w' μ' hR hs' hx hv hfr hl hbk => ?_
  obtain ⟨rfl, rfl⟩ := hR
  have hfar : ∀ q ∈ Prt, ∀ L, μ q = some L → w'.heap[L.g]? = w.heap[L.g]? := fun q hq L hL => by
    refine hfr.block _ (hs.h.len q L hL).2 fun hm => ?_
    obtain ⟨r, M, q1, _⟩ := img_mem hm
    cases q1
  have hsub : ∀ x, Cl μ' Prt w' x → Cl μ Prt w x := fun x hx2 q hq L hL => (hx2 q hq L (hx q L hL)).trans (hfar q hq L hL)
  have hER := he.mono hx
  have ha : a.put o.dst rv = a := by rw [hd]; rfl
  rw [ha]
  refine hK (Cw tl2 μ' Prt w') _ w' (fun x hx2 => ?_) (Cw.self _ _ _ _) (k w0 Fr μ0 μ' _ w' hs' hER hp)
  show Cl μ Prt w x
  cases tl2 with
  | true =>
    obtain rfl : x = w' := hx2
    exact hfar
  | false => exact hsub x hx2
end Go.Proofs.Ytcbngjpihcemiaa

/- A region that draws its order, with the reads told that wait for none that writes: behind one that all of them come ahead of, what they read may change. -/
namespace Go.Proofs.Ytcbngjpihcemiaa
open Go.RowKit

section
variable {P : Program} {ops : Array Oper} {Q : Exit → Act → World → Prop} {md : Region.Mode}
/-- Whatever order is picked from here on, and S holds behind every operation, of what is done and of the world. -/
def wpAnyL (P : Program) (md : Region.Mode) (ops : Array Oper) (Q : Exit → Act → World → Prop) (S : Array Bool → World → Prop) : Nat → Array Bool → Act → World → Prop
  | 0, listed, a, w => Region.ready md ops listed = [] ∧ Q .normal a w
  | fuel + 1, listed, a, w =>
    (Region.ready md ops listed = [] → Q .normal a w) ∧
    ∀ i ∈ Region.ready md ops listed, wpOp P ops Q i (fun a' w' => S (listed.setIfInBounds i true) w' ∧ wpAnyL P md ops Q S fuel (listed.setIfInBounds i true) a' w') a w
theorem wpAny_of_L {S : Array Bool → World → Prop} : ∀ (fuel : Nat) (listed : Array Bool) (a : Act) (w : World), wpAnyL P md ops Q S fuel listed a w → wpAny P md ops Q fuel listed a w
  | 0, _, _, _, h => h
  | fuel + 1, _, _, _, h => ⟨h.1, fun i hi => wpOp_mono (fun a' w' h' => wpAny_of_L fuel _ a' w' h'.2) (h.2 i hi)⟩
/-- What is done is done with all ahead of it. -/
def DC (md : Region.Mode) (ops : Array Oper) (L : Array Bool) : Prop := ∀ j o, ops[j]? = some o → L.getD j true = true → ∀ e ∈ o.after, Region.binds md e = true → L.getD e.on false = true
theorem getD_tf' {l : Array Bool} {k : Nat} (h : l.getD k false = true) : l.getD k true = true := by
  rcases Nat.lt_or_ge k l.size with hk | hk
  · simp only [Array.getD_eq_getD_getElem?, Array.getElem?_eq_getElem hk, Option.getD_some] at h ⊢
    exact h
  · simp [Array.getD_eq_getD_getElem?, Array.getElem?_eq_none hk] at h
theorem getD_set_self {l : Array Bool} {k : Nat} : (l.setIfInBounds k true).getD k true = true := by
  rcases Nat.lt_or_ge k l.size with hk | hk
  · simp [Array.getD_eq_getD_getElem?, hk]
  · simp [Array.getD_eq_getD_getElem?]
theorem DC.set {L : Array Bool} {i : Nat} (h : DC md ops L) (hr : i ∈ Region.ready md ops L) : DC md ops (L.setIfInBounds i true) := by
  intro j o hj hl e he hb
  by_cases hij : j = i
  · subst hij
    obtain ⟨_, o', ho', hall⟩ := mem_ready.1 hr
    rw [hj] at ho'
    injection ho' with ho'
    subst ho'
    exact getD_set_true (hall e he hb)
  · rw [getD_set_ne true (Ne.symm hij)] at hl
    exact getD_set_true (h j o hj hl e he hb)
/-- Is r ahead of i, by what waits for what? -/
def ancB (md : Region.Mode) (ops : Array Oper) : Nat → Nat → Nat → Bool
  | 0, _, _ => false
  | fuel + 1, i, r => match ops[i]? with
    | none => false
    | some o => o.after.any fun e => Region.binds md e && (e.on == r || ancB md ops fuel e.on r)
theorem ancB_done {L : Array Bool} (h : DC md ops L) : ∀ (fuel i r : Nat), ancB md ops fuel i r = true → L.getD i true = true → L.getD r false = true
  | 0, _, _, hb, _ => by cases hb
  | fuel + 1, i, r, hb, hi => by
    unfold ancB at hb
    split at hb
    · cases hb
    · rename_i o ho
      rw [← Array.any_toList, List.any_eq_true] at hb
      obtain ⟨e, he0, hb⟩ := hb
      have he : e ∈ o.after := by simpa using he0
      simp only [Bool.and_eq_true, Bool.or_eq_true, beq_iff_eq] at hb
      have h1 := h i o ho hi e he hb.1
      rcases hb.2 with h2 | h2
      · rw [← h2]
        exact h1
      · exact ancB_done h fuel e.on r h2 (getD_tf' h1)
theorem wpAnyL_first {S : Array Bool → World → Prop} {Y : World → Prop} {i : Nat} {oi : Oper} {v : Value} (hi : ops[i]? = some oi) (hsel : ∀ (j : Nat) (o : Oper) cs b, ops[j]? = some o → o.op ≠ .select cs b)
    (hQ : ∀ c a w, Q (.panic c) (a.put oi.dst v) w → Q (.panic c) a w)
    (hSY : ∀ L w, DC md ops L → L.getD i true = false → S (L.setIfInBounds i true) w → Y w) (hSd : ∀ L w, L.getD i true = false → S (L.setIfInBounds i true) w → S L w) :
    ∀ (fuel : Nat) (listed : Array Bool) (a : Act) (w : World), DC md ops listed →
      (∀ j oj, ops[j]? = some oj → j ≠ i → listed.getD j true = false → (∀ e ∈ oj.after, Region.binds md e = true → e.on ≠ i) → oi.apart ops oj = true) →
      i ∈ Region.ready md ops listed → YieldsIf P ops Y oi v a → S (listed.setIfInBounds i true) w →
      wpAnyL P md ops Q S fuel (listed.setIfInBounds i true) (a.put oi.dst v) w → wpAnyL P md ops Q S (fuel + 1) listed a w := by
  intro fuel
  induction fuel with
  | zero =>
    intro listed a w hdc _ hr hy hS H
    refine ⟨fun h => (by rw [h] at hr; cases hr), fun j hj => ?_⟩
    by_cases hji : j = i
    · subst hji; exact hy.wpOp hi (hSY _ _ hdc (mem_ready.1 hr).1 hS) ⟨hS, H⟩
    · have := ready_mono hj hji
      rw [H.1] at this
      cases this
  | succ fuel ih =>
    intro listed a w hdc hfree hr hy hS H
    refine ⟨fun h => (by rw [h] at hr; cases hr), fun j hj => ?_⟩
    by_cases hji : j = i
    · subst hji; exact hy.wpOp hi (hSY _ _ hdc (mem_ready.1 hr).1 hS) ⟨hS, H⟩
    · have h1 := H.2 j (ready_mono hj hji)
      obtain ⟨hjun, oj, hoj, hall⟩ := mem_ready.1 hj
      have hi0 := (mem_ready.1 hr).1
      have hnot : ∀ e ∈ oj.after, Region.binds md e = true → e.on ≠ i := fun e he hb heq => by
        have h1 := getD_tf' (hall e he hb)
        rw [heq, hi0] at h1
        cases h1
      have h2 := wpOp_putIf hoj (hfree j oj hoj hji hjun hnot) (fun cs b => hsel i oi cs b hi) (fun cs b => hsel j oj cs b hoj) hQ hy h1
      have hfree' : ∀ k ok, ops[k]? = some ok → k ≠ i → (listed.setIfInBounds j true).getD k true = false →
          (∀ e ∈ ok.after, Region.binds md e = true → e.on ≠ i) → oi.apart ops ok = true := fun k ok hk hki hun hno => by
        refine hfree k ok hk hki ?_ hno
        by_cases hjk : j = k
        · subst hjk; exact hjun
        · rw [getD_set_ne true hjk] at hun; exact hun
      have hi1 : (listed.setIfInBounds j true).getD i true = false := by rw [getD_set_ne true hji]; exact hi0
      refine wpOp_mono (fun a' w' h3 => ?_) h2
      obtain ⟨h4, h5, h6⟩ := h3
      rw [Array.setIfInBounds_comm _ _ (Ne.symm hji)] at h5 h6
      exact ⟨hSd _ _ hi1 h5, ih (listed.setIfInBounds j true) a' w' (hdc.set hj) hfree' (ready_mono hr (Ne.symm hji)) h4 h5 h6⟩
/-- A piece of a walk: reads that look at no memory; reads; one that writes; one that writes behind all reads. -/
inductive RSeg where
  | pures (l : List Nat)
  | reads (l : List Nat)
  | write (i : Nat)
  | reset (i : Nat)
def nextR : List RSeg → Option Nat
  | [] => none
  | .reset i :: _ => some i
  | _ :: rest => nextR rest
def rLen : List RSeg → Nat
  | [] => 0
  | .pures l :: rest => l.length + rLen rest
  | .reads l :: rest => l.length + rLen rest
  | .write _ :: rest => 1 + rLen rest
  | .reset _ :: rest => 1 + rLen rest
def okR (md : Region.Mode) (ops : Array Oper) : List RSeg → Array Bool → Bool
  | [], listed => (Region.ready md ops listed).isEmpty
  | .pures l :: rest, listed => (match nextR rest with | none => true | some r => l.all fun i => i != r) && (match okReads md ops l listed with
    | some listed' => okR md ops rest listed'
    | none => false)
  | .reads l :: rest, listed => (match nextR rest with | none => true | some r => l.all fun i => i != r && ancB md ops ops.size r i) && (match okReads md ops l listed with
    | some listed' => okR md ops rest listed'
    | none => false)
  | .write i :: rest, listed => (Region.ready md ops listed == [i]) && okR md ops rest (listed.setIfInBounds i true)
  | .reset i :: rest, listed => (Region.ready md ops listed == [i]) && okR md ops rest (listed.setIfInBounds i true)
/-- The walk. -/
def wpR (P : Program) (ops : Array Oper) (Q : Exit → Act → World → Prop) : List RSeg → (World → Prop) → Act → World → Prop
  | [], _, a, w => Q .normal a w
  | .pures l :: rest, C, a, w => ∃ Y : World → Prop, (∀ x, Y x) ∧ wpQuiet P ops Y (fun a' => wpR P ops Q rest C a' w) (l.filterMap (ops[·]?)) a
  | .reads l :: rest, C, a, w => wpQuiet P ops C (fun a' => wpR P ops Q rest C a' w) (l.filterMap (ops[·]?)) a
  | .write i :: rest, C, a, w => wpOp P ops Q i (fun a' w' => ∃ C' : World → Prop, (∀ x, C' x → C x) ∧ C' w' ∧ wpR P ops Q rest C' a' w') a w
  | .reset i :: rest, _, a, w => wpOp P ops Q i (fun a' w' => ∃ C' : World → Prop, C' w' ∧ wpR P ops Q rest C' a' w') a w
/-- What is asked of the worlds till the next one that all reads come ahead of. -/
def SC (C : World → Prop) (r : Option Nat) (L : Array Bool) (w : World) : Prop := (∀ k, r = some k → L.getD k true = false) → C w
theorem wpAnyL_mono {S S' : Array Bool → World → Prop} (I : Array Bool → Prop) (hI : ∀ L i, I L → I (L.setIfInBounds i true)) (h : ∀ L x, I L → S' L x → S L x) : ∀ (fuel : Nat) (listed : Array Bool) (a : Act) (w : World), I listed → wpAnyL P md ops Q S' fuel listed a w → wpAnyL P md ops Q S fuel listed a w
  | 0, _, _, _, _, h1 => h1
  | fuel + 1, _, _, _, hi, h1 => ⟨h1.1, fun i hr => wpOp_mono (fun a' w' h2 => ⟨h _ _ (hI _ _ hi) h2.1, wpAnyL_mono I hI h fuel _ a' w' (hI _ _ hi) h2.2⟩) (h1.2 i hr)⟩
theorem readsL_sound (hs : Region.noSelect ops = true) (hQ : ∀ c a d v w, Q (.panic c) (a.put d v) w → Q (.panic c) a w) {S : Array Bool → World → Prop} {Y : World → Prop} {K : Act → Prop} {w : World} (hSw : ∀ L, S L w) (fuel : Nat) {lst : Array Bool}
    (hK : DC md ops lst → ∀ a, K a → wpAnyL P md ops Q S fuel lst a w) : ∀ (l : List Nat) (listed : Array Bool) (a : Act), (∀ i ∈ l, (∀ L x, DC md ops L → L.getD i true = false → S (L.setIfInBounds i true) x → Y x) ∧ (∀ L x, L.getD i true = false → S (L.setIfInBounds i true) x → S L x)) → okReads md ops l listed = some lst → DC md ops listed →
    wpQuiet P ops Y K (l.filterMap (ops[·]?)) a → wpAnyL P md ops Q S (l.length + fuel) listed a w
  | [], listed, a, _, hok, hdc, h => by
    simp only [okReads, Option.some.injEq] at hok
    subst hok
    simpa using hK hdc a (by simpa [wpQuiet] using h)
  | i :: rest, listed, a, hc0, hok, hdc, h => by
    unfold okReads at hok
    split at hok
    · rename_i hc
      simp only [Bool.and_eq_true] at hc
      obtain ⟨⟨⟨hi, hf⟩, hr⟩, hrd⟩ := hc
      have hi' : i < ops.size := of_decide_eq_true hi
      have ho : ops[i]? = some ops[i] := Array.getElem?_eq_getElem hi'
      simp only [ho, Option.map_some, Option.getD_some] at hrd
      rw [List.filterMap_cons, ho] at h
      simp only [wpQuiet] at h
      have hr' : i ∈ Region.ready md ops listed := by simpa using hr
      obtain ⟨c1, c2⟩ := hc0 i (List.mem_cons_self ..)
      have key : ∀ v, YieldsIf P ops Y ops[i] v a → wpQuiet P ops Y K (rest.filterMap (ops[·]?)) (a.put ops[i].dst v) → wpAnyL P md ops Q S ((i :: rest).length + fuel) listed a w := fun v hy h2 => by
        rw [List.length_cons, Nat.add_right_comm]
        exact wpAnyL_first ho (Region.noSelect_spec hs) (fun c a w => hQ c a _ v w) c1 c2 _ listed a w hdc (Region.free_spec ho hf) hr' hy (hSw _) (readsL_sound hs hQ hSw fuel hK rest _ _ (fun k hk => hc0 k (List.mem_cons_of_mem _ hk)) hok (hdc.set hr') h2)
      split at h
      · rename_i hw
        obtain ⟨v, h1, h2⟩ := h
        exact key v (yieldsIf_of_quiet hrd hw h1) h2
      · rename_i hw
        exact key undef (.inr ⟨by simpa using hw, rfl⟩) h
    · cases hok
theorem segsR_sound (hs : Region.noSelect ops = true) (hQ : ∀ c a d v w, Q (.panic c) (a.put d v) w → Q (.panic c) a w) : ∀ (l : List RSeg) (C : World → Prop) (listed : Array Bool) (a : Act) (w : World), okR md ops l listed = true → DC md ops listed → C w →
    wpR P ops Q l C a w → wpAnyL P md ops Q (SC C (nextR l)) (rLen l) listed a w
  | [], C, listed, a, w, hok, _, _, h => ⟨by simpa [okR] using hok, h⟩
  | .pures l :: rest, C, listed, a, w, hok, hdc, hC, h => by
    obtain ⟨Y, hY, h⟩ := h
    unfold okR at hok
    simp only [Bool.and_eq_true] at hok
    obtain ⟨hne, hok⟩ := hok
    split at hok
    · rename_i lst hl
      refine readsL_sound hs hQ (fun _ _ => hC) (rLen rest) (fun hdc' a' hK => segsR_sound hs hQ rest C lst a' w hok hdc' hC hK) l listed a (fun i hi => ⟨fun _ x _ _ _ => hY x, fun L x hL hS hk => hS fun r hr => ?_⟩) hl hdc h
      have hr' : nextR rest = some r := hr
      rw [hr'] at hne
      have := List.all_eq_true.1 hne i hi
      simp only [bne_iff_ne, ne_eq] at this
      rw [getD_set_ne true this]
      exact hk r hr
    · cases hok
  | .reads l :: rest, C, listed, a, w, hok, hdc, hC, h => by
    unfold okR at hok
    simp only [Bool.and_eq_true] at hok
    obtain ⟨hne, hok⟩ := hok
    split at hok
    · rename_i lst hl
      have hsep : ∀ i ∈ l, ∀ r, nextR rest = some r → i ≠ r ∧ ancB md ops ops.size r i = true := fun i hi r hr => by
        rw [hr] at hne
        have := List.all_eq_true.1 hne i hi
        simp only [Bool.and_eq_true, bne_iff_ne, ne_eq] at this
        exact this
      refine readsL_sound hs hQ (fun _ _ => hC) (rLen rest) (fun hdc' a' hK => segsR_sound hs hQ rest C lst a' w hok hdc' hC hK) l listed a (fun i hi => ⟨fun L x hd hL hS => hS fun r hr => ?_, fun L x hL hS hk => hS fun r hr => ?_⟩) hl hdc h
      · obtain ⟨h1, h2⟩ := hsep i hi r hr
        rw [getD_set_ne true h1]
        cases hb : L.getD r true with
        | false => rfl
        | true =>
          have := getD_tf' (ancB_done hd _ _ _ h2 hb)
          rw [hL] at this
          cases this
      · rw [getD_set_ne true (hsep i hi r hr).1]
        exact hk r hr
    · cases hok
  | .write i :: rest, C, listed, a, w, hok, hdc, hC, h => by
    simp only [okR, Bool.and_eq_true, beq_iff_eq] at hok
    have hi : i ∈ Region.ready md ops listed := by rw [hok.1]; exact List.mem_cons_self ..
    show wpAnyL P md ops Q _ (1 + rLen rest) listed a w
    rw [Nat.add_comm]
    refine ⟨fun h0 => (by rw [hok.1] at h0; cases h0), fun j hj => ?_⟩
    rw [hok.1] at hj
    obtain rfl : j = i := by simpa using hj
    refine wpOp_mono (fun a' w' h3 => ?_) h
    obtain ⟨C', hsub, hC', h2⟩ := h3
    exact ⟨fun _ => hsub _ hC', wpAnyL_mono (fun _ => True) (fun _ _ _ => trivial) (fun L x _ hS hk => hsub _ (hS hk)) _ _ _ _ trivial (segsR_sound hs hQ rest C' _ a' w' hok.2 (hdc.set hi) hC' h2)⟩
  | .reset i :: rest, C, listed, a, w, hok, hdc, hC, h => by
    simp only [okR, Bool.and_eq_true, beq_iff_eq] at hok
    have hi : i ∈ Region.ready md ops listed := by rw [hok.1]; exact List.mem_cons_self ..
    show wpAnyL P md ops Q _ (1 + rLen rest) listed a w
    rw [Nat.add_comm]
    refine ⟨fun h0 => (by rw [hok.1] at h0; cases h0), fun j hj => ?_⟩
    rw [hok.1] at hj
    obtain rfl : j = i := by simpa using hj
    refine wpOp_mono (fun a' w' h3 => ?_) h
    obtain ⟨C', hC', h2⟩ := h3
    have hno : ∀ L x, L.getD j true = true → SC C (nextR (.reset j :: rest)) L x := fun L x hL hk => by
      have := hk j rfl
      rw [hL] at this
      cases this
    refine ⟨hno _ _ getD_set_self, wpAnyL_mono (fun L => L.getD j true = true) (fun L k hL => ?_) (fun L x hL _ => hno L x hL) _ _ _ _ getD_set_self (segsR_sound hs hQ rest C' _ a' w' hok.2 (hdc.set hi) hC' h2)⟩
    by_cases hkj : k = j
    · subst hkj
      exact getD_set_self
    · rw [getD_set_ne true hkj]
      exact hL
theorem DC.start : DC md ops (Array.replicate ops.size false) := by
  intro j o hj hl
  have hlt := (Array.getElem?_eq_some_iff.1 hj).1
  simp [Array.getD_eq_getD_getElem?, hlt] at hl
theorem wp_region_R {id : Nat} {a : Act} {w : World} (l : List RSeg) (C : World → Prop) (hm : P.follows .mixedOrders = true) (hs : Region.noSelect ops = true) (hlen : rLen l = ops.size) (hok : okR .any ops l (Array.replicate ops.size false) = true)
    (hC : C w.drew) (h : wpR P ops (NoPanic Q) l C a w.drew) : (Code.region id ops true).wp P Q a w := by
  refine wp_region_noPanic (wp_region_any hm (wpAny_of_L (S := SC C (nextR l)) _ _ _ _ ?_))
  have := segsR_sound (md := .any) hs (fun _ _ _ _ _ h => h) l C (Array.replicate ops.size false) a w.drew hok .start hC h
  rw [hlen] at this
  exact this
end
end Go.Proofs.Ytcbngjpihcemiaa

/- The ghost walk: regions that draw their order, in pieces of which some come behind all reads. -/
namespace Go.Proofs.Ytcbngjpihcemiaa
open Go.RowKit

/-- The pieces of a region, walked. -/
def GRs (P : Program) (N : Nat) (C : Ctx) (ops : Array Oper) (Q : Exit → Env → Hp → Prop) (tl : Bool) (Prt : List Nat) (l : List RSeg) (env : Env) (H : Hp) : Prop :=
  ∀ w0 Fr μ0 μ a w, Sim C w0 Fr μ0 μ H w → ER μ N env a → (∀ i ∈ Prt, i < H.length) → wpR P ops (NoPanic (GPost N C w0 Fr μ0 Q)) l (Cw tl μ Prt w) a w
section
variable {P : Program} {N : Nat} {C : Ctx} {Q : Exit → Env → Hp → Prop} {env : Env} {H : Hp} {ops : Array Oper} {tl : Bool} {Prt : List Nat} {o : Oper} {segs : List RSeg}
theorem GWP.drawL {id : Nat} {l : List Oper} (segs : List RSeg) (tl : Bool) (Prt : List Nat) (hm : P.follows .mixedOrders = true) (hs : Region.noSelect l.toArray = true) (hlen : rLen segs = l.toArray.size) (hok : okR .any l.toArray segs (Array.replicate l.toArray.size false) = true)
    (hp : ∀ i ∈ Prt, i < H.length) (h : GRs P N C l.toArray Q tl Prt segs env H) : GWP P N C (.region id l.toArray true) Q env H := fun w0 Fr μ0 μ a w hs' he => by
  have hs2 : Sim C w0 Fr μ0 μ H w.drew := ⟨hs'.h.drew, hs'.ext, hs'.frm.drew, hs'.old, hs'.new, hs'.len, hs'.back⟩
  exact wp_region_R segs (Cw tl μ Prt w.drew) hm hs hlen hok (Cw.self _ _ _ _) (h w0 Fr μ0 μ a w.drew hs2 he hp)
theorem GRs.nil (h : Q .normal env H) : GRs P N C ops Q tl Prt [] env H := fun _ _ _ μ _ _ hs he _ => ⟨μ, env, H, hs, he, h⟩
theorem GRs.reads {l : List Nat} {L : List Oper} (hL : l.filterMap (ops[·]?) = L) (h : GQ P N C ops tl Prt (fun env' => GRs P N C ops Q tl Prt segs env' H) L env H) : GRs P N C ops Q tl Prt (.reads l :: segs) env H := fun w0 Fr μ0 μ a w hs he hp => by
  show wpQuiet _ _ _ _ (l.filterMap (ops[·]?)) _
  rw [hL]
  exact h w0 Fr μ0 μ a w _ hs he fun env' a' he' hk => hk w0 Fr μ0 μ a' w hs he' hp
theorem GRs.pures {l : List Nat} {L : List Oper} (hL : l.filterMap (ops[·]?) = L) (h : GQ P N C ops false [] (fun env' => GRs P N C ops Q tl Prt segs env' H) L env H) : GRs P N C ops Q tl Prt (.pures l :: segs) env H := fun w0 Fr μ0 μ a w hs he hp => by
  refine ⟨Cw false μ [] w, fun x i hi => (by cases hi), ?_⟩
  rw [hL]
  exact h w0 Fr μ0 μ a w _ hs he fun env' a' he' hk => hk w0 Fr μ0 μ a' w hs he' hp
/-- One that writes, behind all reads. -/
theorem GRs.resetD {i : Nat} {b : Bool} {d : Nat} {R : Value → Hp → Prop} (tl2 : Bool) (ho : ops[i]? = some o) (hw : gwant ops env o = some b) (hb : b = true) (hd : o.dst = some d) (hN : Nat.blt d N = true) (h : GOp P C o env H R)
    (k : ∀ v H', R v H' → ∃ Prt2 : List Nat, (∀ j ∈ Prt2, j < H'.length) ∧ GRs P N C ops Q tl2 Prt2 segs ((d, v) :: env) H') : GRs P N C ops Q tl Prt (.reset i :: segs) env H := fun w0 Fr μ0 μ a w hs he hp => by
  have hr := (gwant_real he hw).trans hb
  show wpOp _ _ _ _ _ _ _
  unfold wpOp
  simp only [ho]
  rw [if_pos hr]
  refine .inl (h N w0 Fr μ0 μ a w _ _ hs he fun v rv H' w' μ' hR hs' hx hv => ?_)
  obtain ⟨Prt2, k1, k2⟩ := k v H' hR
  have hER := (he.mono hx).put (d := d) (by rw [← Nat.blt_eq]; exact hN) hv
  rw [← hd] at hER
  exact ⟨Cw tl2 μ' Prt2 w', Cw.self _ _ _ _, k2 w0 Fr μ0 μ' _ w' hs' (by rw [hd] at hER ⊢; exact hER) k1⟩
theorem GRs.reset1 {i : Nat} {b : Bool} {d : Nat} {v0 : Value} {H0 : Hp} (tl2 : Bool) (Prt2 : List Nat) (ho : ops[i]? = some o) (hw : gwant ops env o = some b) (hb : b = true) (hd : o.dst = some d) (hN : Nat.blt d N = true) (h : GOp P C o env H (fun v H' => v = v0 ∧ H' = H0))
    (hp : ∀ j ∈ Prt2, j < H0.length) (k : GRs P N C ops Q tl2 Prt2 segs ((d, v0) :: env) H0) : GRs P N C ops Q tl Prt (.reset i :: segs) env H :=
  GRs.resetD tl2 ho hw hb hd hN h fun v H' ⟨e1, e2⟩ => by subst e1; subst e2; exact ⟨Prt2, hp, k⟩
theorem GRs.resetS {i : Nat} {b : Bool} {v0 : Value} {H0 : Hp} (tl2 : Bool) (Prt2 : List Nat) (ho : ops[i]? = some o) (hw : gwant ops env o = some b) (hb : b = true) (hd : o.dst = none) (h : GOp P C o env H (fun v H' => v = v0 ∧ H' = H0))
    (hp : ∀ j ∈ Prt2, j < H0.length) (k : GRs P N C ops Q tl2 Prt2 segs env H0) : GRs P N C ops Q tl Prt (.reset i :: segs) env H := fun w0 Fr μ0 μ a w hs he hpp => by
  have hr := (gwant_real he hw).trans hb
  show wpOp _ _ _ _ _ _ _
  unfold wpOp
  simp only [ho]
  rw [if_pos hr]
  refine .inl (h N w0 Fr μ0 μ a w _ _ hs he fun v rv H' w' μ' hR hs' hx hv => ?_)
  obtain ⟨rfl, rfl⟩ := hR
  have ha : a.put o.dst rv = a := by rw [hd]; rfl
  rw [ha]
  exact ⟨Cw tl2 μ' Prt2 w', Cw.self _ _ _ _, k w0 Fr μ0 μ' _ w' hs' (he.mono hx) hp⟩
/-- One that writes; the blocks in which reads may float are not among those that it writes. -/
theorem GRs.writeD {i : Nat} {b : Bool} {d : Nat} {F : List Nat} {R : Value → Hp → Prop} (tl2 : Bool) (ho : ops[i]? = some o) (hw : gwant ops env o = some b) (hb : b = true) (hd : o.dst = some d) (hN : Nat.blt d N = true) (h : GOpF P C o env F H R)
    (htl : tl = false) (hF : ∀ j ∈ F, ∃ c, H.at j = some c ∧ c.rw = true) (hP : ∀ j ∈ Prt, (∃ c, H.at j = some c) ∧ j ∉ F)
    (k : ∀ v H', R v H' → ∃ Prt2 : List Nat, (∀ j ∈ Prt, j ∈ Prt2) ∧ (∀ j ∈ Prt2, j < H'.length) ∧ GRs P N C ops Q tl2 Prt2 segs ((d, v) :: env) H') : GRs P N C ops Q tl Prt (.write i :: segs) env H := fun w0 Fr μ0 μ a w hs he hp => by
  subst htl
  have hr := (gwant_real he hw).trans hb
  show wpOp _ _ _ _ _ _ _
  unfold wpOp
  simp only [ho]
  rw [if_pos hr]
  refine .inl (h N w0 Fr μ0 μ a w _ _ hs he fun v rv H' w' μ' hR hs' hx hv hfr hl hbk => ?_)
  obtain ⟨Prt2, hP2, k1, k2⟩ := k v H' hR
  have hfar : ∀ q ∈ Prt, ∀ L, μ q = some L → w'.heap[L.g]? = w.heap[L.g]? := fun q hq L hL => by
    obtain ⟨⟨c, hc⟩, hjF⟩ := hP q hq
    refine hfr.block _ (hs.h.len q L hL).2 fun hm => ?_
    obtain ⟨r, M, q1, q2, q3⟩ := img_mem hm
    obtain ⟨c', hc', hrw⟩ := hF r q1
    have := hs.h.inj r q c' c M L hc' hc q2 hL q3 (.inl hrw)
    subst this
    exact hjF q1
  have hsub : ∀ x, Cl μ' Prt2 w' x → Cl μ Prt w x := fun x hx2 q hq L hL => (hx2 q (hP2 q hq) L (hx q L hL)).trans (hfar q hq L hL)
  have hER := (he.mono hx).put (d := d) (by rw [← Nat.blt_eq]; exact hN) hv
  rw [← hd] at hER
  refine ⟨Cw tl2 μ' Prt2 w', fun x hx2 => ?_, Cw.self _ _ _ _, k2 w0 Fr μ0 μ' _ w' hs' (by rw [hd] at hER ⊢; exact hER) k1⟩
  show Cl μ Prt w x
  cases tl2 with
  | true =>
    obtain rfl : x = w' := hx2
    exact hfar
  | false => exact hsub x hx2
theorem GRs.write1 {i : Nat} {b : Bool} {d : Nat} {F : List Nat} {v0 : Value} {H0 : Hp} (tl2 : Bool) (Prt2 : List Nat) (ho : ops[i]? = some o) (hw : gwant ops env o = some b) (hb : b = true) (hd : o.dst = some d) (hN : Nat.blt d N = true) (h : GOpF P C o env F H (fun v H' => v = v0 ∧ H' = H0))
    (htl : tl = false) (hF : ∀ j ∈ F, ∃ c, H.at j = some c ∧ c.rw = true) (hP : ∀ j ∈ Prt, (∃ c, H.at j = some c) ∧ j ∉ F) (hP2 : ∀ j ∈ Prt, j ∈ Prt2)
    (hp : ∀ j ∈ Prt2, j < H0.length) (k : GRs P N C ops Q tl2 Prt2 segs ((d, v0) :: env) H0) : GRs P N C ops Q tl Prt (.write i :: segs) env H :=
  GRs.writeD tl2 ho hw hb hd hN h htl hF hP fun v H' ⟨e1, e2⟩ => by subst e1; subst e2; exact ⟨Prt2, hP2, hp, k⟩
/-- One that is not wanted. -/
theorem GRs.no {i : Nat} {b : Bool} {d : Nat} (ho : ops[i]? = some o) (hw : gwant ops env o = some b) (hb : b = false) (hd : o.dst = some d) (hN : Nat.blt d N = true) (k : GRs P N C ops Q tl Prt segs ((d, undef) :: env) H) : GRs P N C ops Q tl Prt (.write i :: segs) env H := fun w0 Fr μ0 μ a w hs he hp => by
  have hr := (gwant_real he hw).trans hb
  show wpOp _ _ _ _ _ _ _
  unfold wpOp
  simp only [ho]
  rw [if_neg (by rw [hr]; simp)]
  have hER := he.put (d := d) (by rw [← Nat.blt_eq]; exact hN) (.tuple .nil : VR μ undef undef)
  rw [← hd] at hER
  exact ⟨Cw tl μ Prt w, fun _ h => h, Cw.self _ _ _ _, k w0 Fr μ0 μ _ w hs (by rw [hd] at hER ⊢; exact hER) hp⟩
theorem GRs.noR {i : Nat} {b : Bool} {d : Nat} (ho : ops[i]? = some o) (hw : gwant ops env o = some b) (hb : b = false) (hd : o.dst = some d) (hN : Nat.blt d N = true) (k : GRs P N C ops Q tl Prt segs ((d, undef) :: env) H) : GRs P N C ops Q tl Prt (.reset i :: segs) env H := fun w0 Fr μ0 μ a w hs he hp => by
  have hr := (gwant_real he hw).trans hb
  show wpOp _ _ _ _ _ _ _
  unfold wpOp
  simp only [ho]
  rw [if_neg (by rw [hr]; simp)]
  have hER := he.put (d := d) (by rw [← Nat.blt_eq]; exact hN) (.tuple .nil : VR μ undef undef)
  rw [← hd] at hER
  exact ⟨Cw tl μ Prt w, Cw.self _ _ _ _, k w0 Fr μ0 μ _ w hs (by rw [hd] at hER ⊢; exact hER) hp⟩
theorem GRs.split {s : RSeg} {i : Nat} {b : Bool} (_ho : ops[i]? = some o) (hw : gwant ops env o = some b) (_hg : o.guard.isSome = true) (h1 : b = true → GRs P N C ops Q tl Prt (s :: segs) env H) (h2 : b = false → GRs P N C ops Q tl Prt (s :: segs) env H) : GRs P N C ops Q tl Prt (s :: segs) env H := by
  have := hw
  cases b with
  | true => exact h1 rfl
  | false => exact h2 rfl
end
end Go.Proofs.Ytcbngjpihcemiaa
