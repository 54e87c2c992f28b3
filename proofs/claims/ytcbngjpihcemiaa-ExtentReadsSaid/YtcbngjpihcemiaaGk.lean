/- The ghost walk: calls; functions entered and left. Over any program. -/
import Derived.Test.YtcbngjpihcemiaaGj
namespace Go.Proofs.Ytcbngjpihcemiaa
open Go.RowKit

/-- The real blocks of some ghost blocks. -/
def img (μ : Ren) (F : List Nat) : List Nat := F.filterMap fun i => (μ i).map (·.g)
theorem mem_img {μ : Ren} {F : List Nat} {i : Nat} {L : Loc} (h : i ∈ F) (hL : μ i = some L) : L.g ∈ img μ F := by
  unfold img
  rw [List.mem_filterMap]
  exact ⟨i, h, by rw [hL]; rfl⟩
theorem img_mem {μ : Ren} {F : List Nat} {g : Nat} (h : g ∈ img μ F) : ∃ i L, i ∈ F ∧ μ i = some L ∧ L.g = g := by
  unfold img at h
  rw [List.mem_filterMap] at h
  obtain ⟨i, h1, h2⟩ := h
  cases hm : μ i with
  | none => rw [hm] at h2; cases h2
  | some L =>
    rw [hm] at h2
    injection h2 with h2
    exact ⟨i, L, h1, hm, h2⟩
/-- A call, on the ghost side: it may write the blocks F; what comes of it. -/
def GCalls (P : Program) (f : FuncId) (args : List Value) (F : List Nat) (H : Hp) (R : Value → Hp → Prop) : Prop :=
  ∀ μ w (rargs : Array Value), SimH μ H w → VRs μ args rargs.toList → Calls P f rargs w fun e w' => ∃ v rv H' μ', e = .returned rv ∧ R v H' ∧ VR μ' v rv ∧ SimH μ' H' w' ∧ Ext' μ μ' ∧ Frm w w' (img μ F) ∧
    (∀ i L, H.length ≤ i → μ' i = some L → L.g ∈ img μ F ∨ w.heap.size ≤ L.g) ∧ H.length ≤ H'.length ∧ ∀ i L, i < H.length → μ' i = some L → μ i = some L
theorem GCalls.mono {P : Program} {f : FuncId} {args : List Value} {F : List Nat} {H : Hp} {R R' : Value → Hp → Prop} (h : GCalls P f args F H R) (hr : ∀ v H', R v H' → R' v H') : GCalls P f args F H R' := fun μ w rargs hs hv =>
  (h μ w rargs hs hv).mono fun _ _ ⟨v, rv, H', μ', q1, q2, q3⟩ => ⟨v, rv, H', μ', q1, hr _ _ q2, q3⟩
/-- The frame at a function's beginning. -/
def envOf : Nat → List Value → Env
  | _, [] => []
  | k, v :: l => (k, v) :: envOf (k + 1) l
theorem envOf_get : ∀ (l : List Value) (k s : Nat) (v : Value), (envOf k l).get s = some v → k ≤ s ∧ l[s - k]? = some v
  | [], _, _, _, h => by simp [envOf, Env.get] at h
  | u :: l, k, s, v, h => by
    by_cases e : k = s
    · subst e
      rw [envOf, Env.get_cons_eq] at h
      injection h with h
      subst h
      exact ⟨Nat.le_refl _, by simp⟩
    · rw [envOf, Env.get_cons_ne _ _ e] at h
      obtain ⟨h1, h2⟩ := envOf_get l (k + 1) s v h
      refine ⟨by omega, ?_⟩
      rw [show s - k = (s - (k + 1)) + 1 by omega]
      simpa using h2
/-- What a function hands back. -/
inductive GRes (env : Env) (H : Hp) (T : Tab) : List ResultVar → Value → Prop
  | none : GRes env H T [] (.tuple #[])
  | one {s : Nat} {v : Value} (h : env.get s = some v) : GRes env H T [.tmp s] v
  | cell1 {s t j off : Nat} {i : TyI} {b : Blk} {v : Value} (h : env.get s = some (.pointer (some ⟨j, off, none⟩))) (ht : T t = some i) (ha : i.agg = false) (hb : H.at j = some b) (hv : b.cs[off]? = some v) : GRes env H T [.cell s t] v
  | cellN {s t j off : Nat} {i : TyI} {b : Blk} (h : env.get s = some (.pointer (some ⟨j, off, none⟩))) (ht : T t = some i) (ha : i.agg = true) (hb : H.at j = some b) (hn : off + i.size ≤ b.cs.length) : GRes env H T [.cell s t] (.agg ((b.cs.drop off).take i.size).toArray)
  | two {x y : ResultVar} {u v : Value} (h1 : GRes env H T [x] u) (h2 : GRes env H T [y] v) : GRes env H T [x, y] (.tuple #[u, v])
  | three {x y z : ResultVar} {u v r : Value} (h1 : GRes env H T [x] u) (h2 : GRes env H T [y] v) (h3 : GRes env H T [z] r) : GRes env H T [x, y, z] (.tuple #[u, v, r])
section
variable {P : Program} {T : Tab} {env : Env} {H : Hp}
def resOf (tmps : Array Value) : ResultVar → Sem Value
  | .tmp t => pure (tmps.getD t undef)
  | .cell s t => do loadVar t (← asAddr (tmps.getD s undef))
theorem results_is (fn : Func) (tmps : Array Value) : results fn tmps = (do
    let vs ← fn.results.mapM (resOf tmps)
    pure (if h : vs.size = 1 then vs[0] else .tuple vs)) := by
  unfold results
  congr 1
theorem run_res1 (hT : T.ok P) {μ : Ren} {N : Nat} {a : Act} {w : World} (he : ER μ N env a) (hs : SimH μ H w) {x : ResultVar} {v : Value} (h : GRes env H T [x] v) : ∃ rv, VR μ v rv ∧ (resOf a.tmps x).run P w = .ok rv w := by
  unfold resOf
  cases h with
  | one h =>
    obtain ⟨rv, h1, h2⟩ := he.val _ _ h
    exact ⟨rv, h2, by simp [Array.getD_eq_getD_getElem?, h1]⟩
  | cell1 h ht ha hb hv =>
    rename_i s t j off i b
    obtain ⟨p, h1, h2⟩ := he.val _ _ h
    obtain ⟨L, v', h3, h4, h5⟩ := hs.cell hb hv
    obtain rfl := h2.addr h3
    exact ⟨v', h5, by simp [Array.getD_eq_getD_getElem?, h1, asAddr, loadVar, run_isAgg_no hT ht ha, load, Sem.run, h4]⟩
  | cellN h ht ha hb hn =>
    rename_i s t j off i b
    obtain ⟨p, h1, h2⟩ := he.val _ _ h
    obtain ⟨L, l', h3, h4, h5, h6⟩ := hs.run hb off i.size hn
    obtain rfl := h2.addr h3
    have hl := run_loadCells_list (P := P) w ⟨L.g, L.d + off, none⟩ l' (fun k v' hv => by rw [addr_add]; exact h6 k v' hv)
    rw [h5] at hl
    obtain ⟨ti, q1, q2, _⟩ := Tab.size hT ht
    exact ⟨.agg l'.toArray, .agg (by simpa using h4), by simp [Array.getD_eq_getD_getElem?, h1, asAddr, loadVar, run_isAgg_yes hT ht ha, run_size q1, q2, hl]⟩
theorem run_res (hT : T.ok P) {μ : Ren} {N : Nat} {a : Act} {w : World} (he : ER μ N env a) (hs : SimH μ H w) {fn : Func} {l : List ResultVar} (hl : fn.results = l.toArray) {v : Value} (h : GRes env H T l v) : ∃ rv, VR μ v rv ∧ (results fn a.tmps).run P w = .ok rv w := by
  have one : ∀ {x : ResultVar} {u : Value}, l = [x] → GRes env H T [x] u → ∃ rv, VR μ u rv ∧ (results fn a.tmps).run P w = .ok rv w := fun {x u} e h => by
    obtain ⟨rv, h1, h2⟩ := run_res1 hT he hs h
    refine ⟨rv, h1, ?_⟩
    rw [results_is, hl, e]
    simp [h2]
  cases h with
  | none => exact ⟨_, .tuple .nil, by simp [results, hl]⟩
  | one h => exact one rfl (.one h)
  | cell1 h ht ha hb hv => exact one rfl (.cell1 h ht ha hb hv)
  | cellN h ht ha hb hn => exact one rfl (.cellN h ht ha hb hn)
  | two h1 h2 =>
    rename_i x y u v
    obtain ⟨r1, e1, e2⟩ := run_res1 hT he hs h1
    obtain ⟨r2, e3, e4⟩ := run_res1 hT he hs h2
    refine ⟨.tuple #[r1, r2], .tuple (.cons e1 (.cons e3 .nil)), ?_⟩
    rw [results_is, hl]
    simp [e2, e4]
  | three h1 h2 h3 =>
    rename_i x y z u v r
    obtain ⟨r1, e1, e2⟩ := run_res1 hT he hs h1
    obtain ⟨r2, e3, e4⟩ := run_res1 hT he hs h2
    obtain ⟨r3, e5, e6⟩ := run_res1 hT he hs h3
    refine ⟨.tuple #[r1, r2, r3], .tuple (.cons e1 (.cons e3 (.cons e5 .nil))), ?_⟩
    rw [results_is, hl]
    simp [e2, e4, e6]
/-- A function's end. -/
def gend (T : Tab) (l : List ResultVar) (R : Value → Hp → Prop) : Exit → Env → Hp → Prop
  | .normal, env, H => ∃ v, GRes env H T l v ∧ R v H
  | .ret, env, H => ∃ v, GRes env H T l v ∧ R v H
  | _, _, _ => False
theorem GCalls.body {f : FuncId} {fn : Func} {c : Code} {args : List Value} {F : List Nat} {R : Value → Hp → Prop} (hT : T.ok P) (hf : P.funcs[f]? = some fn) (hb : fn.body = some c) {l : List ResultVar} (hl : fn.results = l.toArray) {N : Nat} (hN : fn.ntmps = N) (hna : args.length ≤ N) (hF : ∀ i ∈ F, i < H.length)
    (h : GWP P N ⟨F, H.length⟩ c (gend T l R) (envOf 0 args) H) : GCalls P f args F H R := fun μ w rargs hs hv => by
  have hlen : rargs.size = args.length := by simpa using hv.length.symm
  have hsim : Sim ⟨F, H.length⟩ w (img μ F) μ μ H w := by
    refine ⟨hs, Ext'.refl μ, Frm.refl _ _, fun i hi => ⟨hF i hi, fun L hL => mem_img hi hL⟩, fun i L hi hL => ?_, Nat.le_refl _, fun _ _ _ h => h⟩
    have := (hs.len i L hL).1
    simp only at hi
    omega
  have hER : ER μ N (envOf 0 args) ⟨rargs ++ Array.replicate (fn.ntmps - rargs.size) undef, []⟩ := by
    refine ⟨by simp; omega, rfl, fun s v hs' => ?_⟩
    obtain ⟨_, h2⟩ := envOf_get args 0 s v hs'
    obtain ⟨v', h3, h4⟩ := hv.get _ v h2
    rw [Nat.sub_zero] at h3
    refine ⟨v', ?_, h4⟩
    have hlt : s < rargs.size := by
      have := (List.getElem?_eq_some_iff.1 h3).1
      simpa using this
    rw [Array.getElem?_append_left hlt]
    simpa using h3
  refine calls_of_wp hf hb (wp_mono (h w (img μ F) μ μ _ w hsim hER) ?_)
  rintro e a' w' ⟨μ', env', H', q1, q2, q3⟩
  have fin : (∃ v, GRes env' H' T l v ∧ R v H') → a'.defers = [] ∧ ∃ v, (results fn a'.tmps).run P w' = .ok v w' ∧ ∃ v2 rv H'2 μ', (Ending.returned v) = .returned rv ∧ R v2 H'2 ∧ VR μ' v2 rv ∧ SimH μ' H'2 w' ∧ Ext' μ μ' ∧ Frm w w' (img μ F) ∧ (∀ i L, H.length ≤ i → μ' i = some L → L.g ∈ img μ F ∨ w.heap.size ≤ L.g) ∧ H.length ≤ H'2.length ∧ ∀ i L, i < H.length → μ' i = some L → μ i = some L := by
    rintro ⟨v, h1, h2⟩
    obtain ⟨rv, h3, h4⟩ := run_res hT q2 q1.h hl h1
    exact ⟨q2.defers, rv, h4, v, rv, H', μ', rfl, h2, h3, q1.h, q1.ext, q1.frm, fun i L hi hL => q1.new i L hi hL, q1.len, q1.back⟩
  cases e with
  | normal => exact fin q3
  | ret => exact fin q3
  | _ => exact q3.elim
/-- Operands of a call. -/
def gargs (env : Env) : List Operand → Option (List Value)
  | [] => some []
  | x :: l => match geval env x, gargs env l with
    | some v, some vs => some (v :: vs)
    | _, _ => none
theorem gargs_real {μ : Ren} {N : Nat} {a : Act} (he : ER μ N env a) : ∀ {l : List Operand} {vs : List Value}, gargs env l = some vs → VRs μ vs (l.map a.eval)
  | [], vs, h => by
    simp only [gargs, Option.some.injEq] at h
    subst h
    exact .nil
  | x :: l, vs, h => by
    unfold gargs at h
    split at h
    · rename_i v vs' h1 h2
      injection h with h
      subst h
      exact .cons (he.eval h1) (gargs_real he h2)
    · cases h
/-- Behind a call: the walk's relation again. -/
theorem Sim.called {C : Ctx} {w0 w w' : World} {Fr F : List Nat} {μ0 μ μ' : Ren} {H' : Hp} (s : Sim C w0 Fr μ0 μ H w) (hm : ∀ i ∈ F, C.may i) (h : SimH μ' H' w') (he : Ext' μ μ') (hF : Frm w w' (img μ F)) (hn : ∀ i L, H.length ≤ i → μ' i = some L → L.g ∈ img μ F ∨ w.heap.size ≤ L.g) (hl : H.length ≤ H'.length) (hr : ∀ i L, i < H.length → μ' i = some L → μ i = some L) : Sim C w0 Fr μ0 μ' H' w' := by
  have key : ∀ g ∈ img μ F, g ∈ Fr ∨ w0.heap.size ≤ g := fun g hg => by
    obtain ⟨i, L, h1, h2, rfl⟩ := img_mem hg
    exact s.may (hm i h1) h2
  refine ⟨h, s.ext.trans he, s.frm.tr hF key, fun i hi => ⟨(s.old i hi).1, fun L hL => (s.old i hi).2 L (hr i L (by have := (s.old i hi).1; have := s.len; omega) hL)⟩, fun i L hi hL => ?_, by have := s.len; omega, fun i L hi hL => s.back i L hi (hr i L (by have := s.len; omega) hL)⟩
  rcases Nat.lt_or_ge i H.length with h1 | h1
  · exact s.new i L hi (hr i L h1 hL)
  · rcases hn i L h1 hL with h2 | h2
    · exact key _ h2
    · exact .inr (Nat.le_trans s.frm.size h2)
end
end Go.Proofs.Ytcbngjpihcemiaa
