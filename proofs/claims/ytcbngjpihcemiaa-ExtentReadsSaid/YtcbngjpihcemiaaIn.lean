/- The quick heap: blocks that are made early. -/
import Derived.Test.YtcbngjpihcemiaaIh
namespace Go.Proofs.Ytcbngjpihcemiaa
open Go.RowKit

/-- What makes a new block: whatever stands in the ghost heap. -/
def ANew (P : Program) (o : Oper) (env : Env) (b : FB) (vf : Nat → Value) : Prop := ∀ μ N a (w : World), ER μ N env a → ∃ rs t rv, VRs μ b.cells rs ∧ (execOp a.eval o).run P w = .ok (.value rv) (w.alloc (.cells rs.toArray t)) ∧ ∀ (ν : Ren) id, ν id = some ⟨w.heap.size, 0, rs.length, b.z⟩ → VR ν (vf id) rv
section
variable {P : Program} {T : Tab} {o : Oper} {env : Env} {E : Tr Value}
theorem new_cells {t : TypeId} {z : Nat} {cs : List Value} (h : cs.length ≤ trMax) : FB.cells ⟨t, z, cs.length, putsT cs 0 .e, undef, true⟩ = cs := by
  have := congrArg Blk.cs (FB.new_abs t z cs h)
  exact this
theorem ialloc_new (hT : T.ok P) (hs : Sees env E (o.op.operands.toList.flatMap opTmps)) {b : FB} {vf : Nat → Value} (h : ialloc T E o.op = some (b, vf)) : (b.rw = true ∧ ∀ v ∈ b.cells, v.oneCell' = true) ∧ ANew P o env b vf := by
  cases ho : o.op <;> rw [ho] at h <;> simp only [ialloc] at h <;> try (cases h; done)
  case alloc e =>
    split at h
    · rename_i i ht
      replace h := bsel_f h; obtain ⟨h1, h⟩ := h
      rw [FB.new_eq] at h
      replace h := bsel_t h; obtain ⟨h2, h⟩ := h
      replace h2 := ble_le h2
      simp only [Option.some.injEq, Prod.mk.injEq] at h
      obtain ⟨rfl, rfl⟩ := h
      have hc := new_cells (t := e) (z := 1) (cs := i.zero) (by unfold trMax; simp only at h2; omega)
      obtain ⟨ti, q1, q2, q3, q4⟩ := Tab.size hT ht
      obtain ⟨z, q5, q6, q7⟩ := q4 (fun e => by rw [e] at h1; cases h1)
      refine ⟨⟨rfl, fun v hv => ?_⟩, fun μ N a w he => ⟨i.zero, e, _, ?_, ?_, fun ν id hν => .ptr hν⟩⟩
      · rw [hc] at hv
        exact plain_one (q7 v hv)
      · rw [hc]
        exact .plain q7
      · have e : z.cells = i.zero.toArray := by rw [← q6]
        simp [execOp, ho, Instr.alloc, zeroValue, typeInfo, q1, q5, newVar, newRow, newObj, Sem.run, e]
    · cases h
  case box e x =>
    split at h
    · rename_i v hv
      replace h := bsel_t h; obtain ⟨h1, h⟩ := h
      rw [FB.new_eq] at h
      replace h := bsel_t h; obtain ⟨h2, h⟩ := h
      replace h2 := ble_le h2
      rw [allOne_all] at h1
      simp only [Option.some.injEq, Prod.mk.injEq] at h
      obtain ⟨rfl, rfl⟩ := h
      have hc := new_cells (t := e) (z := 1) (cs := v.cells.toList) (by unfold trMax; simp only at h2; omega)
      have hx := opd_geval (env := env) (fun s hz => hs s (by rw [ho]; simpa [Op.operands] using hz)) hv
      refine ⟨⟨rfl, fun u hu => ?_⟩, fun μ N a w he => ⟨(a.eval x).cells.toList, e, _, ?_, ?_, fun ν id hν => .ptr hν⟩⟩
      · rw [hc] at hu
        exact one_agg h1 u hu
      · rw [hc]
        exact (he.eval hx).cells
      · simp [execOp, ho, Instr.box, newVar, newRow, newObj, Sem.run]
    · cases h
  case buildSlice t len ps =>
    split at h
    · rename_i i ht
      split at h
      · rename_i e z by_ zr hd
        split at h
        · rename_i vs hp
          replace h := bsel_t h; obtain ⟨g1, h⟩ := h
          replace g1 := and_t g1; obtain ⟨g1, g2⟩ := g1
          replace g1 := ble_le g1
          split at h
          · rename_i cs hf
            replace h := bsel_t h; obtain ⟨h1, h⟩ := h
            rw [FB.new_eq] at h
            replace h := bsel_t h; obtain ⟨h2, h⟩ := h
            replace h2 := ble_le h2
            rw [allOne_all] at h1
            simp only [Option.some.injEq, Prod.mk.injEq] at h
            obtain ⟨rfl, rfl⟩ := h
            have hc := new_cells (t := e) (z := z) (cs := cs) (by unfold trMax; simp only at h2; omega)
            obtain ⟨q1, ti, q2, q3, q4, q5, zv, q6, q7, q8⟩ := Tab.slice hT ht hd
            have hz : zr ≠ [] := fun e => by rw [e] at g2; cases g2
            have hzl : 0 < zr.length := List.length_pos_iff.2 hz
            have hlm : len ≤ 16777216 := by
              have : len * 1 ≤ len * z := Nat.mul_le_mul_left _ (by omega)
              omega
            have hps := iparts_eq (env := env) (fun s hz => hs s (by rw [ho]; simpa [Op.operands] using hz)) hp
            refine ⟨⟨rfl, fun u hu => ?_⟩, fun μ N a w he => ?_⟩
            · rw [hc] at hu
              exact one_agg h1 u hu
            · have hr := gparts_real he hps
              obtain ⟨out', e1, e2⟩ := gfill_rel hr (VRs.plain (fun v hv => q8 v (gmade_mem hv))) hf
              refine ⟨out', e, _, by rw [hc]; exact e2, ?_, fun ν id hν => .sl (c' := len) (a := ⟨w.heap.size, 0, none⟩) hν (Nat.le_refl _) (by unfold maxLen; omega) (fun _ => rfl) (fun h => by unfold capU at h; omega) (fun _ => rfl)⟩
              subst q3
              have hfl : Instr.fill (fun i => some (i * ti.size, ti.size)) ((Array.range (len * ti.size)).map ((if len * ti.size = 0 then #[] else zv.cells)[· % (if len * ti.size = 0 then #[] else zv.cells).size]!)) (ps.toList.map fun p => (p.1, a.eval p.2)) = some out'.toArray := by
                rw [fill_is]
                have hm := made_is zv zr q7 len
                rw [← q5] at hm
                have : ((Array.range (len * ti.size)).map ((if len * ti.size = 0 then #[] else zv.cells)[· % (if len * ti.size = 0 then #[] else zv.cells).size]!)).toList = gmade zr len := by
                  by_cases h0 : len * ti.size = 0
                  · rw [if_pos h0, ← hm, h0]
                    simp [madeCells]
                  · rw [if_neg h0]
                    exact hm
                rw [this, e1]
                rfl
              by_cases h0 : len * ti.size = 0
              · have hr0 : Array.range 0 = #[] := rfl
                simp only [h0, if_true, hr0, List.map_toArray, List.map_nil] at hfl
                simp [execOp, ho, Instr.buildSlice, run_underlying q1, run_size q2, h0, hr0, newRow, hfl]
              · simp only [h0, if_false] at hfl
                simp [execOp, ho, Instr.buildSlice, run_underlying q1, run_size q2, show ¬ (16777216 < len * ti.size) by omega, h0, zeroValue, typeInfo, q2, q6, newRow, hfl]
          · cases h
        · cases h
      · cases h
    · cases h
end
theorem PH.abs_none {h : PH} {i : Nat} (e : h.at i = none) : h.abs.at i = none := by
  unfold Hp.at
  rw [PH.abs_get]
  by_cases hi : i < h.n
  · rw [PH.at_of hi] at e
    rw [if_pos hi, e]
    rfl
  · rw [if_neg hi]
    rfl
/-- A place is kept for a block to come. -/
theorem PH.abs_res {h : PH} (hn : h.n < trMax) : PH.abs ⟨h.n + 1, Tr.put 64 h.t h.n none⟩ = h.abs ++ [none] := by
  apply List.ext_getElem?
  intro i
  rw [PH.abs_get]
  simp only
  rw [Tr.get_set hn]
  rcases Nat.lt_trichotomy i h.n with e | e | e
  · rw [if_pos (by omega), if_neg (by omega), List.getElem?_append_left (by simpa using e), PH.abs_get, if_pos e]
  · subst e
    rw [if_pos (by omega), if_pos rfl, List.getElem?_append_right (by simp)]
    simp
  · rw [if_neg (by omega), List.getElem?_append_right (by simp; omega), List.getElem?_eq_none (by simp; omega)]
section
variable {μ : Ren} {H : Hp} {w w' : World} {C : Ctx} {w0 : World} {Fr : List Nat} {μ0 : Ren}
theorem at_res {i : Nat} {b : Blk} (h : Hp.at (H ++ [none]) i = some b) : H.at i = some b := by
  rcases Nat.lt_trichotomy i H.length with e | e | e
  · rw [Hp.at_app_lt e] at h
    exact h
  · subst e
    unfold Hp.at at h
    rw [List.getElem?_append_right (Nat.le_refl _)] at h
    simp at h
  · have := Hp.at_lt h
    simp at this
    omega
theorem SimH.res (hs : SimH μ H w) : SimH μ (H ++ [none]) w := ⟨fun i b hb => hs.dom i b (at_res hb), fun i L hL => ⟨by have := (hs.len i L hL).1; simp; omega, (hs.len i L hL).2⟩, fun i j b b' L L' hi hj => hs.inj i j b b' L L' (at_res hi) (at_res hj)⟩
theorem Sim.res (s : Sim C w0 Fr μ0 μ H w) : Sim C w0 Fr μ0 μ (H ++ [none]) w := ⟨s.h.res, s.ext, s.frm, s.old, s.new, by have := s.len; simp; omega, s.back⟩
/-- The real block comes: the ghost has a place for it. -/
theorem Sim.real {id : Nat} {rs : List Value} {t : TypeId} {z : Nat} (s : Sim C w0 Fr μ0 μ H w) (hn : μ id = none) (hat : H.at id = none) (hl : id < H.length) (hC : C.n0 ≤ id) : Ext' μ (μ.upd id ⟨w.heap.size, 0, rs.length, z⟩) ∧ Sim C w0 Fr μ0 (μ.upd id ⟨w.heap.size, 0, rs.length, z⟩) H (w.alloc (.cells rs.toArray t)) := by
  have he : Ext' μ (μ.upd id ⟨w.heap.size, 0, rs.length, z⟩) := fun i x hx => by
    rw [Ren.upd_ne _ _ (fun e => by subst e; rw [hn] at hx; cases hx)]
    exact hx
  have ne : ∀ i b, H.at i = some b → i ≠ id := fun i b hb e => by subst e; rw [hat] at hb; cases hb
  refine ⟨he, ⟨fun i b hb => ?_, fun i L hL => ?_, fun i j b b' L L' hi hj h1 h2 => ?_⟩, s.ext.trans he, s.frm.alloc _, fun i hi => ?_, fun i L hi hL => ?_, s.len, fun i L hi hL => ?_⟩
  · obtain ⟨L, rs', t', fz, q1, q2, q3, q4, q5, q6, q7⟩ := s.h.dom i b hb
    exact ⟨L, rs', t', fz, he i L q1, q2, by rw [heap_alloc_old w _ (s.h.len i L q1).2]; exact q3, q4, q5, q6.mono he, q7⟩
  · by_cases e : i = id
    · subst e
      rw [Ren.upd_eq] at hL
      injection hL with hL
      subst hL
      exact ⟨hl, by simp⟩
    · rw [Ren.upd_ne _ _ e] at hL
      obtain ⟨q1, q2⟩ := s.h.len i L hL
      exact ⟨q1, by simp; omega⟩
  · rw [Ren.upd_ne _ _ (ne i b hi)] at h1
    rw [Ren.upd_ne _ _ (ne j b' hj)] at h2
    exact s.h.inj i j b b' L L' hi hj h1 h2
  · obtain ⟨q1, q2⟩ := s.old i hi
    refine ⟨q1, fun L hL => ?_⟩
    rw [Ren.upd_ne _ _ (by omega)] at hL
    exact q2 L hL
  · by_cases e : i = id
    · subst e
      rw [Ren.upd_eq] at hL
      injection hL with hL
      subst hL
      exact .inr s.frm.size
    · rw [Ren.upd_ne _ _ e] at hL
      exact s.new i L hi hL
  · rw [Ren.upd_ne _ _ (by omega)] at hL
    exact s.back i L hi hL
/-- The block comes into the ghost heap. -/
theorem Sim.commit {id g : Nat} {rs : Array Value} {t : TypeId} {b : Blk} (s : Sim C w0 Fr μ0 μ H w) (hL : μ id = some ⟨g, 0, rs.size, b.z⟩) (hl : id < H.length) (hat : H.at id = none) (hg : w.heap[g]? = some (.cells rs t (0, 0))) (hc : Cel μ b.cs rs 0) (h1 : ∀ v ∈ b.cs, v.oneCell' = true)
    (hf : ∀ i c M, H.at i = some c → μ i = some M → M.g ≠ g) : Sim C w0 Fr μ0 μ (H.put id b) w := by
  have key : ∀ j c, (H.put id b).at j = some c → (j ≠ id ∧ H.at j = some c) ∨ (j = id ∧ c = b) := fun j c hc => by
    by_cases e : j = id
    · subst e
      rw [Hp.at_put_eq hl] at hc
      injection hc with hc
      exact .inr ⟨rfl, hc.symm⟩
    · rw [Hp.at_put_ne (Ne.symm e)] at hc
      exact .inl ⟨e, hc⟩
  refine ⟨⟨fun j c hcj => ?_, fun i L hi => by rw [Hp.len_put]; exact s.h.len i L hi, fun j k c c' M M' hj hk hM hM' hgg hr => ?_⟩, s.ext, s.frm, s.old, s.new, by rw [Hp.len_put]; exact s.len, s.back⟩
  · rcases key j c hcj with ⟨_, h⟩ | ⟨rfl, rfl⟩
    · exact s.h.dom j c h
    · exact ⟨_, rs, t, (0, 0), hL, rfl, hg, fun _ => .inl rfl, fun _ => rfl, hc, h1⟩
  · rcases key j c hj with ⟨_, h⟩ | ⟨rfl, rfl⟩
    · rcases key k c' hk with ⟨_, h'⟩ | ⟨rfl, rfl⟩
      · exact s.h.inj j k c c' M M' h h' hM hM' hgg hr
      · rw [hL] at hM'
        injection hM' with hM'
        subst hM'
        exact absurd hgg (hf j c M h hM)
    · rcases key k c' hk with ⟨_, h'⟩ | ⟨rfl, rfl⟩
      · rw [hL] at hM
        injection hM with hM
        subst hM
        exact absurd hgg.symm (hf k c' M' h' hM')
      · rfl
end
/-- The blocks that are made early, in the ghost heap. -/
structure AL (C : Ctx) (done : List Nat) (al : List AB) (H : PH) : Prop where
  dn : ∀ x ∈ al, x.1 ∈ done
  at_ : ∀ x ∈ al, x.2.1 < H.n ∧ H.at x.2.1 = none ∧ C.n0 ≤ x.2.1 ∧ x.2.1 ≤ 1000000000
  ok : ∀ x ∈ al, x.2.2.rw = true ∧ ∀ v ∈ x.2.2.cells, v.oneCell' = true
  ids : (al.map (·.2.1)).Nodup
  inj : ∀ x ∈ al, ∀ y ∈ al, x.1 = y.1 → x = y
/-- The blocks that are made early, in the real heap. -/
structure PA (al : List AB) (listed : Array Bool) (μ : Ren) (H : PH) (w : World) : Prop where
  no : ∀ x ∈ al, listed.getD x.1 true = false → μ x.2.1 = none
  yes : ∀ x ∈ al, listed.getD x.1 true = true → ∃ g rs t, μ x.2.1 = some ⟨g, 0, rs.size, x.2.2.z⟩ ∧ w.heap[g]? = some (.cells rs t (0, 0)) ∧ Cel μ x.2.2.cells rs 0 ∧ ∀ i b M, H.abs.at i = some b → μ i = some M → M.g ≠ g
  apart : ∀ x ∈ al, ∀ y ∈ al, ∀ L L', μ x.2.1 = some L → μ y.2.1 = some L' → L.g = L'.g → x.2.1 = y.2.1
theorem ids_ne {x : AB} {l : List AB} (h : ((x :: l).map (·.2.1)).Nodup) : ∀ y ∈ l, y.2.1 ≠ x.2.1 := fun y hy e => by
  rw [List.map_cons, List.nodup_cons] at h
  exact h.1 (e ▸ List.mem_map_of_mem hy)
theorem ids_inj : ∀ {al : List AB}, (al.map (·.2.1)).Nodup → ∀ x ∈ al, ∀ y ∈ al, x.2.1 = y.2.1 → x = y
  | [], _, _, h, _, _, _ => by cases h
  | z :: al, hn, x, hx, y, hy, e => by
    have hne := ids_ne hn
    rcases List.mem_cons.1 hx with rfl | hx2
    · rcases List.mem_cons.1 hy with rfl | hy2
      · rfl
      · exact absurd e.symm (hne y hy2)
    · rcases List.mem_cons.1 hy with rfl | hy2
      · exact absurd e (hne x hx2)
      · exact ids_inj (List.nodup_cons.1 hn).2 x hx2 y hy2 e
theorem AL.idx {C : Ctx} {done : List Nat} {al : List AB} {H : PH} (h : AL C done al H) {x y : AB} (hx : x ∈ al) (hy : y ∈ al) (e : x.2.1 = y.2.1) : x = y := ids_inj h.ids x hx y hy e
theorem AL.perm {C : Ctx} {done : List Nat} {al al' : List AB} {H : PH} (h : AL C done al H) (p : al.Perm al') : AL C done al' H :=
  ⟨fun x hx => h.dn x (p.mem_iff.2 hx), fun x hx => h.at_ x (p.mem_iff.2 hx), fun x hx => h.ok x (p.mem_iff.2 hx), (p.map _).nodup_iff.1 h.ids, fun x hx y hy => h.inj x (p.mem_iff.2 hx) y (p.mem_iff.2 hy)⟩
theorem PA.sub {al al' : List AB} {listed : Array Bool} {μ : Ren} {H : PH} {w : World} (h : PA al listed μ H w) (s : ∀ x ∈ al', x ∈ al) : PA al' listed μ H w :=
  ⟨fun x hx => h.no x (s x hx), fun x hx => h.yes x (s x hx), fun x hx y hy => h.apart x (s x hx) y (s y hy)⟩
theorem commit_ok {C : Ctx} {w0 : World} {Fr : List Nat} {μ0 μ : Ren} {w : World} {done cms : List Nat} {listed : Array Bool} : ∀ (l acc : List AB) (H : PH), AL C done (l ++ acc) H → CL C H → Sim C w0 Fr μ0 μ H.abs w → PA (l ++ acc) listed μ H w → (∀ x ∈ l, memN x.1 cms = true → listed.getD x.1 true = true) →
    AL C done (commit cms l acc H).1 (commit cms l acc H).2 ∧ CL C (commit cms l acc H).2 ∧ Sim C w0 Fr μ0 μ (commit cms l acc H).2.abs w ∧ PA (commit cms l acc H).1 listed μ (commit cms l acc H).2 w
  | [], acc, H, ha, hC, hs, hp, _ => ⟨ha, hC, hs, hp⟩
  | x :: l, acc, H, ha, hC, hs, hp, hl => by
    rw [commit]
    cases hm : memN x.1 cms with
    | false => exact commit_ok l (x :: acc) H (ha.perm List.perm_middle.symm) hC hs (hp.sub fun y hy => List.perm_middle.mem_iff.1 hy) fun y hy => hl y (List.mem_cons_of_mem _ hy)
    | true =>
      obtain ⟨h1, h2, h3, h4⟩ := ha.at_ x (List.mem_cons_self ..)
      obtain ⟨h5, h6⟩ := ha.ok x (List.mem_cons_self ..)
      obtain ⟨g, rs, t, q1, q2, q3, q4⟩ := hp.yes x (List.mem_cons_self ..) (hl x (List.mem_cons_self ..) hm)
      have hid : x.2.1 < trMax := by unfold trMax; omega
      have habs : PH.abs ⟨H.n, Tr.put 64 H.t x.2.1 (some x.2.2)⟩ = H.abs.put x.2.1 x.2.2.abs := PH.abs_put _ hid
      have hne := ids_ne (l := l ++ acc) ha.ids
      have hget : ∀ i, i ≠ x.2.1 → PH.at ⟨H.n, Tr.put 64 H.t x.2.1 (some x.2.2)⟩ i = H.at i := fun i hi => by
        unfold PH.at
        simp only
        rw [Tr.get_set hid, if_neg hi]
      have hsub : ∀ y ∈ l ++ acc, y ∈ x :: l ++ acc := fun y hy => List.mem_cons_of_mem _ hy
      refine commit_ok l acc _ ⟨fun y hy => ha.dn y (hsub y hy), fun y hy => ?_, fun y hy => ha.ok y (hsub y hy), (List.nodup_cons.1 ha.ids).2, fun y hy z hz => ha.inj y (hsub y hy) z (hsub z hz)⟩ ⟨hC.1, fun i b hb => ?_⟩ ?_ ⟨fun y hy => hp.no y (hsub y hy), fun y hy hyl => ?_, fun y hy z hz => hp.apart y (hsub y hy) z (hsub z hz)⟩ fun y hy => hl y (List.mem_cons_of_mem _ hy)
      · rw [hget _ (hne y hy)]
        exact ha.at_ y (hsub y hy)
      · by_cases e : i = x.2.1
        · subst e; exact .inr h3
        · rw [hget i e] at hb
          exact hC.2 i b hb
      · rw [habs]
        exact hs.commit (b := x.2.2.abs) q1 (by simpa using h1) (PH.abs_none h2) q2 q3 h6 q4
      · obtain ⟨g', rs', t', p1, p2, p3, p4⟩ := hp.yes y (hsub y hy) hyl
        refine ⟨g', rs', t', p1, p2, p3, fun i b M hb hM => ?_⟩
        rw [habs] at hb
        by_cases e : i = x.2.1
        · subst e
          intro hg
          exact hne y hy (hp.apart x (List.mem_cons_self ..) y (hsub y hy) M _ hM p1 hg).symm
        · rw [Hp.at_put_ne (Ne.symm e)] at hb
          exact p4 i b M hb hM
theorem commit_keeps {cms : List Nat} : ∀ (l acc : List AB) (H : PH) (x : AB), (x ∈ l ∧ memN x.1 cms = false) ∨ x ∈ acc → x ∈ (commit cms l acc H).1
  | [], acc, H, x, h => by
    rcases h with ⟨h, _⟩ | h
    · cases h
    · exact h
  | y :: l, acc, H, x, h => by
    rw [commit]
    cases hm : memN y.1 cms with
    | true =>
      refine commit_keeps l acc _ x ?_
      rcases h with ⟨h, h2⟩ | h
      · rcases List.mem_cons.1 h with rfl | h
        · rw [hm] at h2; cases h2
        · exact .inl ⟨h, h2⟩
      · exact .inr h
    | false =>
      refine commit_keeps l (y :: acc) _ x ?_
      rcases h with ⟨h, h2⟩ | h
      · rcases List.mem_cons.1 h with rfl | h
        · exact .inr (List.mem_cons_self ..)
        · exact .inl ⟨h, h2⟩
      · exact .inr (List.mem_cons_of_mem _ h)
theorem commit_sub {cms : List Nat} : ∀ (l acc : List AB) (H : PH) (x : AB), x ∈ (commit cms l acc H).1 → x ∈ l ++ acc
  | [], acc, H, x, h => h
  | y :: l, acc, H, x, h => by
    rw [commit] at h
    cases hm : memN y.1 cms with
    | true =>
      rw [hm] at h
      exact List.mem_cons_of_mem _ (commit_sub l acc _ x h)
    | false =>
      rw [hm] at h
      exact List.perm_middle.mem_iff.1 (commit_sub l (y :: acc) _ x h)
/-- Behind a heap from which all places that are kept came. -/
theorem commit_mono {H0 : PH} {cms : List Nat} : ∀ (l acc : List AB) (H : PH), Mono H0 H → (∀ x ∈ l, H0.n ≤ x.2.1 ∧ x.2.1 ≤ 1000000000) → Mono H0 (commit cms l acc H).2
  | [], _, _, h, _ => h
  | x :: l, acc, H, h, hl => by
    rw [commit]
    cases memN x.1 cms with
    | false => exact commit_mono l _ H h fun y hy => hl y (List.mem_cons_of_mem _ hy)
    | true =>
      obtain ⟨h1, h2⟩ := hl x (List.mem_cons_self ..)
      refine commit_mono l _ _ ⟨h.len, fun i b hi hb => ?_⟩ fun y hy => hl y (List.mem_cons_of_mem _ hy)
      obtain ⟨q1, q2⟩ := PH.at_lt hb
      simp only at q1 q2
      rw [Tr.get_set (by unfold trMax; omega), if_neg (by omega)] at q2
      exact h.old i b hi (by rw [PH.at_of q1]; exact q2)
theorem ird_at {T : Tab} {E : Tr Value} {op : Op} {H H2 : PH} {v : Value} (h : ∀ k, H2.at k = H.at k) (e : ird T E H op = some v) : ird T E H2 op = some v := by
  have : ird T E H2 op = ird T E H op := by
    cases op <;> simp only [ird, iload, islice, iconv, h]
  rw [this]
  exact e
theorem PH.abs_some {h : PH} {i : Nat} {b : Blk} (e : h.abs.at i = some b) : ∃ c, h.at i = some c := by
  cases hb : h.at i with
  | some c => exact ⟨c, rfl⟩
  | none => rw [PH.abs_none hb] at e; cases e
theorem commit_nil : ∀ (l acc : List AB) (H : PH), (commit [] l acc H).2 = H
  | [], _, _ => rfl
  | x :: l, acc, H => by
    rw [commit]
    exact commit_nil l _ H
theorem AL.after {C : Ctx} {done : List Nat} {al : List AB} {H H2 : PH} (h : AL C done al H) (m : Mono H H2) : AL C done al H2 := by
  refine ⟨h.dn, fun x hx => ?_, h.ok, h.ids, h.inj⟩
  obtain ⟨q1, q2, q3⟩ := h.at_ x hx
  refine ⟨Nat.lt_of_lt_of_le q1 m.len, ?_, q3⟩
  cases hb : H2.at x.2.1 with
  | none => rfl
  | some b =>
    obtain ⟨c, hc⟩ := m.old _ b q1 hb
    rw [q2] at hc
    cases hc
/-- A writer leaves the blocks alone that are made early. -/
theorem writer_ok {P : Program} {C : Ctx} {w0 w : World} {Fr : List Nat} {μ0 μ : Ren} {N : Nat} {a : Act} {o : Oper} {env : Env} {H H2 : PH} {v : Value} {done : List Nat} {al : List AB} {listed : Array Bool} (hg : GOp P ⟨live H, H.abs.length⟩ o env H.abs (fun u X => u = v ∧ X = H2.abs)) (hm : Mono H H2) (hC : CL C H) (hal : AL C done al H) (hs : Sim C w0 Fr μ0 μ H.abs w) (he : ER μ N env a) (hpa : PA al listed μ H w)
    {Q : Exit → Act → World → Prop} {K : Act → World → Prop} (hK : ∀ rv w' μ', Sim C w0 Fr μ0 μ' H2.abs w' → Ext' μ μ' → VR μ' v rv → PA al listed μ' H2 w' → K (a.put o.dst rv) w') : o.wp P a w K Q := by
  have hsim : Sim ⟨live H, H.abs.length⟩ w (img μ (live H)) μ μ H.abs w := by
    refine ⟨hs.h, Ext'.refl μ, Frm.refl _ _, fun i hi => ⟨by simpa using live_lt hi, fun L hL => mem_img hi hL⟩, fun i L hi hL => ?_, Nat.le_refl _, fun _ _ _ h => h⟩
    have := (hs.h.len i L hL).1
    have hi' : H.abs.length ≤ i := hi
    omega
  refine hg N w (img μ (live H)) μ μ a w K Q hsim he fun u rv X w' μ' ⟨e1, e2⟩ hs' hx hv => ?_
  subst e1 e2
  have hback : ∀ i L, i < H.n → μ' i = some L → μ i = some L := fun i L hi hL => hs'.back i L (by simpa using hi) hL
  refine hK rv w' μ' (hs.called (fun i hi => by obtain ⟨b, hb⟩ := live_mem hi; exact hC.2 i b hb) hs'.h hx hs'.frm hs'.new hs'.len hs'.back) hx hv ⟨fun x hx2 hl => ?_, fun x hx2 hl => ?_, fun x hx2 y hy L L' hL hL' hgg => ?_⟩
  · cases hb : μ' x.2.1 with
    | none => rfl
    | some L =>
      have := hback _ L (hal.at_ x hx2).1 hb
      rw [hpa.no x hx2 hl] at this
      cases this
  · obtain ⟨g, rs, t, p1, p2, p3, p4⟩ := hpa.yes x hx2 hl
    have hout : g ∉ img μ (live H) := fun hm2 => by
      obtain ⟨i, L, h1, h2, h3⟩ := img_mem hm2
      obtain ⟨b, hb⟩ := live_mem h1
      exact p4 i b.abs L (PH.abs_at hb) h2 h3
    refine ⟨g, rs, t, hx _ _ p1, by rw [hs'.frm.block g (real_lt p2) hout]; exact p2, p3.mono hx, fun i b M hb hM => ?_⟩
    rcases Nat.lt_or_ge i H.n with hi | hi
    · obtain ⟨c, hc⟩ := PH.abs_some hb
      obtain ⟨c', hc'⟩ := hm.old i c hi hc
      exact p4 i c'.abs M (PH.abs_at hc') (hback i M hi hM)
    · rcases hs'.new i M (by simpa using hi) hM with h | h
      · intro e
        exact hout (e ▸ h)
      · have := real_lt p2
        omega
  · exact hpa.apart x hx2 y hy L L' (hback _ L (hal.at_ x hx2).1 hL) (hback _ L' (hal.at_ y hy).1 hL') hgg
end Go.Proofs.Ytcbngjpihcemiaa
