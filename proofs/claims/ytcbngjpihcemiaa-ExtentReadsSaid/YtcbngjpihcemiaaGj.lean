/- The ghost walk: literals; calls; functions entered and left. Over any program. -/
import Derived.Test.YtcbngjpihcemiaaGi
import Derived.Laws.Tables
import Derived.Scope
namespace Go.Proofs.Ytcbngjpihcemiaa
open Go.RowKit

/-- Parts of a literal, laid into cells. -/
def gfill (place : Nat → Option (Nat × Nat)) : List Value → List (Nat × Value) → Option (List Value)
  | cs, [] => some cs
  | cs, (i, v) :: rest => match place i with
    | none => none
    | some (off, size) => if v.cells.size ≠ size || off + v.cells.size > cs.length then none else gfill place (gsets cs off v.cells.toList) rest
theorem gsets_len : ∀ (vs cs : List Value) (o : Nat), (gsets cs o vs).length = cs.length
  | [], _, _ => rfl
  | v :: vs, cs, o => by rw [gsets, gsets_len vs, List.length_set]
theorem zip_sets (off : Nat) : ∀ (l : List Value) (k : Nat) (A : Array Value), ((l.zipIdx k).foldl (fun (cs : Array Value) (p : Value × Nat) => cs.setIfInBounds (off + p.2) p.1) A).toList = gsets A.toList (off + k) l
  | [], k, A => rfl
  | v :: l, k, A => by
    rw [List.zipIdx_cons, List.foldl_cons, zip_sets off l (k + 1), gsets]
    simp [Nat.add_assoc]
theorem fill_is (place : Nat → Option (Nat × Nat)) : ∀ (ps : List (Nat × Value)) (A : Array Value), Instr.fill place A ps = (gfill place A.toList ps).map List.toArray
  | [], A => by simp [Instr.fill, gfill]
  | (i, v) :: rest, A => by
    unfold Instr.fill gfill
    cases hp : place i with
    | none => rfl
    | some q =>
      obtain ⟨off, size⟩ := q
      simp only [Array.length_toList]
      split
      · rfl
      · rw [fill_is place rest]
        congr 2
        have := zip_sets off v.cells.toList 0 A
        rw [Nat.add_zero] at this
        rw [← this, ← Array.foldl_toList]
        simp
section
variable {μ : Ren}
theorem VRs.gsets {vs vs' : List Value} (k : VRs μ vs vs') : ∀ {cs cs' : List Value} {o : Nat}, VRs μ cs cs' → VRs μ (gsets cs o vs) (gsets cs' o vs') := by
  induction vs generalizing vs' with
  | nil => intro cs cs' o h; cases k; exact h
  | cons v vs ih =>
    intro cs cs' o h
    cases k with
    | cons hv hs => exact ih hs (h.set o hv)
/-- Parts, ghost and real. -/
inductive PRs (μ : Ren) : List (Nat × Value) → List (Nat × Value) → Prop
  | nil : PRs μ [] []
  | cons {i : Nat} {v v' : Value} {l l' : List (Nat × Value)} (h : VR μ v v') (hs : PRs μ l l') : PRs μ ((i, v) :: l) ((i, v') :: l')
theorem gfill_rel {place : Nat → Option (Nat × Nat)} {ps ps' : List (Nat × Value)} (h : PRs μ ps ps') : ∀ {cs cs' out : List Value}, VRs μ cs cs' → gfill place cs ps = some out → ∃ out', gfill place cs' ps' = some out' ∧ VRs μ out out' := by
  induction h with
  | nil =>
    intro cs cs' out hc hf
    simp only [gfill, Option.some.injEq] at hf
    subst hf
    exact ⟨cs', rfl, hc⟩
  | cons hv hs ih =>
    rename_i i v v' l l'
    intro cs cs' out hc hf
    unfold gfill at hf ⊢
    have hsz : v'.cells.size = v.cells.size := by simpa using hv.cells.length.symm
    have hcl := hc.length
    cases hp : place i with
    | none => rw [hp] at hf; cases hf
    | some q =>
      obtain ⟨off, size⟩ := q
      rw [hp] at hf
      simp only at hf ⊢
      rw [hsz, ← hcl]
      split at hf
      · cases hf
      · rename_i hcond
        rw [if_neg hcond]
        exact ih (hv.cells.gsets hc) hf
end
/-- A literal's parts on the ghost side. -/
def gparts (env : Env) : List (Nat × Operand) → Option (List (Nat × Value))
  | [] => some []
  | (i, x) :: l => match geval env x, gparts env l with
    | some v, some vs => some ((i, v) :: vs)
    | _, _ => none
theorem gparts_real {μ : Ren} {N : Nat} {env : Env} {a : Act} (he : ER μ N env a) : ∀ {l : List (Nat × Operand)} {ps : List (Nat × Value)}, gparts env l = some ps → PRs μ ps (l.map fun p => (p.1, a.eval p.2))
  | [], ps, h => by
    simp only [gparts, Option.some.injEq] at h
    subst h
    exact .nil
  | (i, x) :: l, ps, h => by
    unfold gparts at h
    split at h
    · rename_i v vs h1 h2
      injection h with h
      subst h
      exact .cons (he.eval h1) (gparts_real he h2)
    · cases h
section
variable {P : Program} {T : Tab} {C : Ctx} {o : Oper} {env : Env} {H : Hp} {x y : Operand} {t xt : TypeId} {i : TyI}
theorem grd_build {ps : List (Nat × Operand)} {vs : List (Nat × Value)} {fs : List (Nat × TypeId × Nat)} {cs : List Value} (hT : T.ok P) (ho : o.op = .build t ps.toArray) (ht : T t = some i) (hd : i.d = .struct fs) (hz : i.zero ≠ []) (hps : gparts env ps = some vs) (hf : gfill (fun k => (fs[k]?).map fun g => (g.1, g.2.2)) i.zero vs = some cs) : GRd P o env H (.agg cs.toArray) [] :=
  .pure fun μ N a he => by
    have hr := gparts_real he hps
    obtain ⟨ti, q1, q2, q3, q4⟩ := Tab.size hT ht
    obtain ⟨z, q5, q6, q7⟩ := q4 hz
    obtain ⟨gs, g1, g2, g3⟩ := Tab.struct hT ht hd
    obtain ⟨out', e1, e2⟩ := gfill_rel hr (VRs.plain q7) hf
    refine ⟨.agg out'.toArray, .agg (by simpa using e2), fun w => ?_⟩
    have hpl : gs.toList.mapM (fun f => (P.info? f.type).map fun i => (f.offset, i.size)) = some (fs.map fun g => (g.1, g.2.2)) := by
      have key : ∀ (l : List Field) (m : List (Nat × TypeId × Nat)), l.length = m.length → (∀ (j : Nat) (f : Field) (g : Nat × TypeId × Nat), l[j]? = some f → m[j]? = some g → f.offset = g.1 ∧ ∃ x, P.info? f.type = some x ∧ x.size = g.2.2) → l.mapM (fun f => (P.info? f.type).map fun i => (f.offset, i.size)) = some (m.map fun g => (g.1, g.2.2)) := by
        intro l
        induction l with
        | nil => intro m hl _; cases m with
          | nil => rfl
          | cons _ _ => cases hl
        | cons f l ih =>
          intro m hl hk
          cases m with
          | nil => cases hl
          | cons g m =>
            obtain ⟨h1, x, h2, h3⟩ := hk 0 f g rfl rfl
            have := ih m (by simpa using hl) fun j f g hj hg => hk (j + 1) f g (by simpa using hj) (by simpa using hg)
            simp [List.mapM_cons, h2, this, h1, h3]
      refine key gs.toList fs (by simpa using g2) fun j f g hj hg => ?_
      obtain ⟨f', x, k1, k2, k3, k4, k5, k6⟩ := g3 j g.1 g.2.1 g.2.2 hg
      have : f' = f := by
        rw [← Array.getElem?_toList, hj] at k1
        injection k1 with k1
        exact k1.symm
      subst this
      exact ⟨k2, x, by rw [k3]; exact k5, k6⟩
    have hbuilt : P.built t (ps.map fun p => (p.1, a.eval p.2)) = some out'.toArray := by
      unfold Program.built
      rw [q1, g1]
      simp only [q5, hpl]
      rw [fill_is, q6]
      have hpf : (fun x : Nat => (fs.map fun g : Nat × TypeId × Nat => (g.1, g.2.2)).toArray[x]?) = (fun k : Nat => (fs[k]?).map fun g : Nat × TypeId × Nat => (g.1, g.2.2)) := by
        funext k
        simp
      rw [hpf, e1]
      rfl
    have hb := run_build (P := P) w t (ps.toArray.map fun (i, x) => (i, a.eval x)) out'.toArray (by simpa using hbuilt)
    simp only [execOp, ho, Sem.run_bind, hb, Result.andThen_ok, Sem.run_pure]
theorem grd_buildA {ps : List (Nat × Operand)} {vs : List (Nat × Value)} {n e z : Nat} {cs : List Value} (hT : T.ok P) (ho : o.op = .build t ps.toArray) (ht : T t = some i) (hd : i.d = .arr n e z) (hz : i.zero ≠ []) (hps : gparts env ps = some vs) (hf : gfill (fun k => some (k * z, z)) i.zero vs = some cs) : GRd P o env H (.agg cs.toArray) [] :=
  .pure fun μ N a he => by
    have hr := gparts_real he hps
    obtain ⟨ti, q1, q2, q3, q4⟩ := Tab.size hT ht
    obtain ⟨zv, q5, q6, q7⟩ := q4 hz
    obtain ⟨g1, x, g2, g3⟩ := Tab.arr hT ht hd
    obtain ⟨out', e1, e2⟩ := gfill_rel hr (VRs.plain q7) hf
    refine ⟨.agg out'.toArray, .agg (by simpa using e2), fun w => ?_⟩
    have hbuilt : P.built t (ps.map fun p => (p.1, a.eval p.2)) = some out'.toArray := by
      unfold Program.built
      rw [q1, g1]
      simp only [q5, g2]
      rw [fill_is, q6, g3, e1]
      rfl
    have hb := run_build (P := P) w t (ps.toArray.map fun (i, x) => (i, a.eval x)) out'.toArray (by simpa using hbuilt)
    simp only [execOp, ho, Sem.run_bind, hb, Result.andThen_ok, Sem.run_pure]
theorem gop_buildSlice {ps : List (Nat × Operand)} {vs : List (Nat × Value)} {len e z by_ : Nat} {zr cs : List Value} (hT : T.ok P) (ho : o.op = .buildSlice t len ps.toArray) (ht : T t = some i) (hd : i.d = .slice e z by_ zr) (hz : zr ≠ []) (hn : len * z ≤ 16777216) (hps : gparts env ps = some vs) (hf : gfill (fun k => some (k * z, z)) (gmade zr len) vs = some cs) (h1 : cs.all (·.oneCell') = true) :
    GOp P C o env H (fun u H' => u = .slice (some ⟨H.length, 0, none⟩) len len ∧ H' = H.push ⟨e, z, cs, true⟩) := by
  obtain ⟨q1, ti, q2, q3, q4, q5, zv, q6, q7, q8⟩ := Tab.slice hT ht hd
  have hzl : 0 < zr.length := List.length_pos_iff.2 hz
  have hlm : len ≤ 16777216 := by
    have : len * 1 ≤ len * z := Nat.mul_le_mul_left _ (by omega)
    omega
  refine GOp.new (fun μ N a w hs he => ?_) (one_agg h1)
  have hr := gparts_real he hps
  obtain ⟨out', e1, e2⟩ := gfill_rel hr (VRs.plain (fun v hv => q8 v (gmade_mem hv))) hf
  refine ⟨out', e, _, e2, ?_, .sl (L := ⟨w.heap.size, 0, out'.length, z⟩) (c' := len) (a := ⟨w.heap.size, 0, none⟩) (Ren.upd_eq _ _ _) (Nat.le_refl _) (by unfold maxLen; omega) (fun _ => rfl) (fun h => by unfold capU at h; omega) (fun _ => rfl)⟩
  subst q3
  have hfl : Instr.fill (fun i => some (i * ti.size, ti.size)) ((Array.range (len * ti.size)).map ((if len * ti.size = 0 then #[] else zv.cells)[· % (if len * ti.size = 0 then #[] else zv.cells).size]!)) (ps.map fun p => (p.1, a.eval p.2)) = some out'.toArray := by
    rw [fill_is]
    have hm := made_is zv zr q7 len
    rw [← q5] at hm
    have : ((Array.range (len * ti.size)).map ((if len * ti.size = 0 then #[] else zv.cells)[· % (if len * ti.size = 0 then #[] else zv.cells).size]!)).toList = gmade zr len := by
      by_cases h0 : len * ti.size = 0
      · rw [if_pos h0, ← hm, h0]
        simp [madeCells]
      · rw [if_neg h0]
        exact hm
    rw [this, e1]
    rfl
  have hps2 : (ps.toArray.map fun (i, x) => (i, a.eval x)).toList = ps.map fun p => (p.1, a.eval p.2) := by simp
  by_cases h0 : len * ti.size = 0
  · have hr0 : Array.range 0 = #[] := rfl
    simp only [h0, if_true, hr0, List.map_toArray, List.map_nil] at hfl
    simp [execOp, ho, Instr.buildSlice, run_underlying q1, run_size q2, h0, hr0, newRow, hfl]
  · simp only [h0, if_false] at hfl
    simp [execOp, ho, Instr.buildSlice, run_underlying q1, run_size q2, show ¬ (16777216 < len * ti.size) by omega, h0, zeroValue, typeInfo, q2, q6, newRow, hfl]
end
end Go.Proofs.Ytcbngjpihcemiaa
