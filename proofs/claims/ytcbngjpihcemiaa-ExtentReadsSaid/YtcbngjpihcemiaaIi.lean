/- The quick heap: regions that draw their order, whatever it is. -/
import Derived.Test.YtcbngjpihcemiaaIn
namespace Go.Proofs.Ytcbngjpihcemiaa
open Go.RowKit

theorem getD_tf {l : Array Bool} {k : Nat} (h : l.getD k false = true) : l.getD k true = true := by
  by_cases e : k < l.size
  · simp [Array.getD, e] at h ⊢; exact h
  · simp [Array.getD, e] at h
theorem getD_ft {l : Array Bool} {k : Nat} (h : l.getD k true = true) (hk : k < l.size) : l.getD k false = true := by
  simp [Array.getD, hk] at h ⊢
  exact h
theorem getD_lt {l : Array Bool} {k : Nat} (h : l.getD k true = false) : k < l.size := by
  rcases Nat.lt_or_ge k l.size with e | e
  · exact e
  · simp [Array.getD, Nat.not_lt.2 e] at h
theorem getD_set_eq {l : Array Bool} {k : Nat} : (l.setIfInBounds k true).getD k true = true := by
  by_cases e : k < l.size
  · simp [Array.getD, e]
  · simp [Array.getD, e]
theorem getD_set_other {l : Array Bool} {k j : Nat} (h : k ≠ j) : (l.setIfInBounds j true).getD k true = l.getD k true := by
  by_cases e : k < l.size
  · simp [Array.getD, e, Array.getElem_setIfInBounds_ne, Ne.symm h]
  · simp [Array.getD, e]
theorem getD_set_up {l : Array Bool} {k j : Nat} (h : l.getD k true = true) : (l.setIfInBounds j true).getD k true = true := by
  by_cases e : k = j
  · subst e; exact getD_set_eq
  · rw [getD_set_other e]; exact h
/-- How many have not come up. -/
def cnt (l : Array Bool) (n : Nat) : Nat := ((List.range n).filter fun k => !l.getD k true).length
theorem cnt_set {l : Array Bool} {j n : Nat} (hj : j < n) (h : l.getD j true = false) : cnt (l.setIfInBounds j true) n < cnt l n := by
  have h1 : ∀ m, ((List.range m).filter fun k => !(l.setIfInBounds j true).getD k true).length + (if j < m then 1 else 0) = ((List.range m).filter fun k => !l.getD k true).length := by
    intro m
    induction m with
    | zero => simp
    | succ m ih =>
      rw [List.range_succ, List.filter_append, List.filter_append, List.length_append, List.length_append]
      by_cases e : m = j
      · subst e
        rw [if_neg (by omega)] at ih
        rw [if_pos (by omega)]
        simp only [List.filter_cons, List.filter_nil, getD_set_eq, h, Bool.not_true, Bool.not_false, Bool.false_eq_true, if_false, if_true, List.length_cons, List.length_nil]
        omega
      · simp only [List.filter_cons, List.filter_nil, getD_set_other e]
        have : (if j < m + 1 then 1 else 0) = (if j < m then 1 else 0) := by
          by_cases q : j < m
          · rw [if_pos q, if_pos (by omega)]
          · rw [if_neg q, if_neg (by omega)]
        rw [this]
        omega
  have := h1 n
  rw [if_pos hj] at this
  unfold cnt
  omega
theorem cnt_zero {l : Array Bool} {n : Nat} (h : cnt l n = 0) {k : Nat} (hk : k < n) : l.getD k true = true := by
  unfold cnt at h
  have h2 := List.eq_nil_of_length_eq_zero h
  rw [List.filter_eq_nil_iff] at h2
  have := h2 k (List.mem_range.2 hk)
  simpa using this
section
variable {P : Program} {T : Tab} {C : Ctx} {w0 : World} {Fr : List Nat} {μ0 : Ren} {ops : List Oper} {N : Nat}
/-- What has come up, and what stands in the frame. -/
structure RS (C : Ctx) (w0 : World) (Fr : List Nat) (μ0 : Ren) (ops : List Oper) (N : Nat) (done pend : List Nat) (al : List AB) (E : Tr Value) (H : PH) (listed : Array Bool) (a : Act) (w : World) : Prop where
  size : listed.size = ops.length
  up : ∀ k, k < ops.length → listed.getD k true = true → k ∈ done
  dn : ∀ k, k ∈ done → k ∉ pend → listed.getD k true = true
  cl : ∀ p ∈ pend, listed.getD p true = true → ∀ q ∈ afters ops p, listed.getD q true = true
  real : ∃ μ, Sim C w0 Fr μ0 μ H.abs w ∧ ERt μ N E (fun s => ∃ p ∈ pend, listed.getD p true = false ∧ dstOf ops p = some s) a ∧ PA al listed μ H w
/-- What is known of the early ones. -/
structure PD (ops : List Oper) (done pend : List Nat) : Prop where
  sub : ∀ p ∈ pend, p ∈ done
  aft : ∀ p ∈ pend, ∀ q ∈ afters ops p, q ∈ done ∧ q < p
  look : ∀ p ∈ pend, ∀ q ∈ pend, ∀ t, dstOf ops q = some t → t ∈ looksOf ops p → q ∈ afters ops p
  inj : ∀ p ∈ pend, ∀ q ∈ pend, p ≠ q → ∀ t, dstOf ops q = some t → dstOf ops p ≠ some t
theorem ready_iff {listed : Array Bool} {j : Nat} : j ∈ Region.ready .any ops.toArray listed ↔ j < ops.length ∧ listed.getD j true = false ∧ ∀ q ∈ afters ops j, listed.getD q false = true := by
  rw [mem_ready]
  constructor
  · rintro ⟨h1, o, ho, h2⟩
    rw [List.getElem?_toArray] at ho
    refine ⟨(List.getElem?_eq_some_iff.1 ho).1, h1, fun q hq => ?_⟩
    unfold afters at hq
    rw [ho] at hq
    obtain ⟨e, he, rfl⟩ := List.mem_map.1 hq
    obtain ⟨he1, he2⟩ := List.mem_filter.1 he
    exact h2 e (Array.mem_toList_iff.1 he1) he2
  · rintro ⟨h1, h2, h3⟩
    refine ⟨h2, ops[j], ?_, fun e he hb => h3 e.on ?_⟩
    · rw [List.getElem?_toArray, List.getElem?_eq_getElem h1]
    · unfold afters
      rw [List.getElem?_eq_getElem h1]
      exact List.mem_map.2 ⟨e, List.mem_filter.2 ⟨Array.mem_toList_iff.2 he, hb⟩, rfl⟩
/-- One that was read, or made, early comes up. -/
theorem exec_pend (hT : T.ok P) {Q : Exit → Act → World → Prop} {done pend als : List Nat} {al : List AB} {E : Tr Value} {H : PH} {listed : Array Bool} {a : Act} {w : World} (hN : ∀ p ∈ pend, ∀ d, dstOf ops p = some d → d < N) (hpd : PD ops done pend) (he : ∀ p ∈ pend, EarlyX T ops als al E H p) (hal : AL C done al H) (hna : ∀ x ∈ al, x.1 ∈ als) (hr : RS C w0 Fr μ0 ops N done pend al E H listed a w)
    {j : Nat} (hj : j ∈ Region.ready .any ops.toArray listed) (hp : j ∈ pend) {K : Act → World → Prop} (hK : ∀ a' w', RS C w0 Fr μ0 ops N done pend al E H (listed.setIfInBounds j true) a' w' → K a' w') : wpOp P ops.toArray Q j K a w := by
  obtain ⟨hjl, hju, hja⟩ := ready_iff.1 hj
  obtain ⟨μ, hs, her, hpa⟩ := hr.real
  have hsee0 : ∀ o, ops[j]? = some o → Sees (envR E (fun s => ∃ p ∈ pend, listed.getD p true = false ∧ dstOf ops p = some s) N) E (looks ops o) := fun o ho => by
    have hlo : looksOf ops j = looks ops o := by unfold looksOf; rw [ho]
    refine her.sees ?_
    rintro t ht ⟨p, hpp, hpu, hpd'⟩
    have := hpd.look j hp p hpp t hpd' (by rw [hlo]; exact ht)
    have h1 := getD_tf (hja p this)
    rw [hpu] at h1
    cases h1
  have fin : ∀ (o : Oper) (d : Nat) (v : Value) (a' : Act) (w' : World) (μ' : Ren) (rv : Value), ops[j]? = some o → o.dst = some d → E.get d = some v → a' = a.put o.dst rv → Sim C w0 Fr μ0 μ' H.abs w' → Ext' μ μ' → VR μ' v rv → PA al (listed.setIfInBounds j true) μ' H w' → K a' w' := by
    rintro o d v a' w' μ' rv ho hd hv rfl hs' hx hrv hpa'
    have hdo : dstOf ops j = some d := by unfold dstOf; rw [ho]; exact hd
    refine hK _ _ ⟨by simpa using hr.size, fun k hk hl => ?_, fun k hd hnp => getD_set_up (hr.dn k hd hnp), fun p hpp hpl q hq => ?_, μ', hs', ?_, hpa'⟩
    · by_cases e : k = j
      · subst e; exact hpd.sub k hp
      · rw [getD_set_other e] at hl
        exact hr.up k hk hl
    · by_cases e : p = j
      · subst e
        exact getD_set_up (getD_tf (hja q hq))
      · rw [getD_set_other e] at hpl
        exact getD_set_up (hr.cl p hpp hpl q hq)
    · rw [hd]
      have hdN := hN j hp d hdo
      refine ⟨by simp [Act.put, her.size], her.defers, fun s u hsu hx' => ?_⟩
      by_cases e : s = d
      · subst e
        rw [hv] at hsu
        injection hsu with hsu
        subst hsu
        refine ⟨rv, ?_, hrv⟩
        simp [Act.put, her.size, hdN]
      · obtain ⟨v', q1, q2⟩ := her.val s u hsu (by
          rintro ⟨p, hpp, hpu, hpd'⟩
          have hpj : p ≠ j := by
            rintro rfl
            rw [hdo] at hpd'
            injection hpd' with hpd'
            exact e hpd'.symm
          exact hx' ⟨p, hpp, by rw [getD_set_other hpj]; exact hpu, hpd'⟩)
        refine ⟨v', ?_, q2.mono hx⟩
        simp only [Act.put]
        rw [Array.getElem?_setIfInBounds_ne (Ne.symm e)]
        exact q1
  have rd : Early T ops E H j → (∀ x ∈ al, x.1 ≠ j) → wpOp P ops.toArray Q j K a w := by
    rintro ⟨o, d, v, ho, hd, hv, hgi⟩ hnx
    have hsee := hsee0 o ho
    have hpa2 : PA al (listed.setIfInBounds j true) μ H w := ⟨fun x hx hl => hpa.no x hx (by rw [← getD_set_other (hnx x hx)]; exact hl), fun x hx hl => hpa.yes x hx (by rw [← getD_set_other (hnx x hx)]; exact hl), hpa.apart⟩
    unfold wpOp
    rw [List.getElem?_toArray, ho]
    simp only
    rcases hgi with ⟨hg, hi⟩ | ⟨hg, rfl⟩
    · have hw := igd_real her.er hsee hg
      rw [hw, if_pos rfl]
      obtain ⟨Ts, hgr⟩ := ird_sound (H := H) hT hsee.left hi
      obtain ⟨rv, g1, g2⟩ := hgr μ N a w hs.h her.er
      refine .inl ?_
      unfold Oper.wp
      rw [g2 w fun _ _ _ _ => rfl]
      exact fin o d v _ w μ rv ho hd hv rfl hs (Ext'.refl μ) g1 hpa2
    · have hw := igd_real her.er hsee hg
      rw [hw, if_neg (by simp)]
      exact fin o d undef _ w μ undef ho hd hv rfl hs (Ext'.refl μ) (.tuple .nil) hpa2
  rcases he j hp with ⟨h0, h⟩ | ⟨h0, h | h⟩
  · exact rd h fun x hx e => h0 (e ▸ hna x hx)
  · obtain ⟨o, d, x, vf, ho, hd, hx, hxj, hv, hg, hi⟩ := h
    have hsee := hsee0 o ho
    obtain ⟨_, hnew⟩ := ialloc_new hT hsee.left hi
    unfold wpOp
    rw [List.getElem?_toArray, ho]
    simp only
    have hw := igd_real her.er hsee hg
    rw [hw, if_pos rfl]
    obtain ⟨rs, t, rv, e1, e2, e3⟩ := hnew μ N a w her.er
    obtain ⟨g1, g2, g3, g4⟩ := hal.at_ x hx
    have hnone : μ x.2.1 = none := hpa.no x hx (by rw [hxj]; exact hju)
    obtain ⟨f1, f2⟩ := hs.real (id := x.2.1) (rs := rs) (t := t) (z := x.2.2.z) hnone (PH.abs_none g2) (by simpa using g1) g3
    refine .inl ?_
    unfold Oper.wp
    rw [e2]
    refine fin o d _ _ _ _ rv ho hd hv rfl f2 f1 (e3 _ _ (Ren.upd_eq _ _ _)) ⟨fun y hy hl => ?_, fun y hy hl => ?_, fun y hy z hz L L' hL hL' hgg => ?_⟩
    · by_cases e : y.1 = j
      · rw [e] at hl
        rw [getD_set_eq] at hl
        cases hl
      · rw [getD_set_other e] at hl
        have := hpa.no y hy hl
        by_cases e2 : y.2.1 = x.2.1
        · exact absurd ((hal.idx hy hx e2) ▸ hxj) e
        · rw [Ren.upd_ne _ _ e2]
          exact this
    · by_cases e : y.1 = j
      · obtain rfl := hal.inj y hy x hx (by rw [e, hxj])
        refine ⟨w.heap.size, rs.toArray, t, by rw [Ren.upd_eq]; simp, heap_alloc_new w _, fun k v hk => ?_, fun i b M hb hM hgM => ?_⟩
        · obtain ⟨v', h2, h3⟩ := e1.get k v hk
          exact ⟨v', by simpa using h2, h3.mono f1⟩
        · by_cases e4 : i = y.2.1
          · subst e4
            rw [PH.abs_none g2] at hb
            cases hb
          · rw [Ren.upd_ne _ _ e4] at hM
            have := (hs.h.len i M hM).2
            omega
      · rw [getD_set_other e] at hl
        obtain ⟨g, rs', t', p1, p2, p3, p4⟩ := hpa.yes y hy hl
        have hyx : y.2.1 ≠ x.2.1 := fun e5 => e ((hal.idx hy hx e5) ▸ hxj)
        refine ⟨g, rs', t', by rw [Ren.upd_ne _ _ hyx]; exact p1, ?_, p3.mono f1, fun i b M hb hM => ?_⟩
        · rw [heap_alloc_old w _ (real_lt p2)]
          exact p2
        · by_cases e4 : i = x.2.1
          · subst e4
            rw [PH.abs_none g2] at hb
            cases hb
          · rw [Ren.upd_ne _ _ e4] at hM
            exact p4 i b M hb hM
    · by_cases ey : y.2.1 = x.2.1
      · by_cases ez : z.2.1 = x.2.1
        · rw [ey, ez]
        · exfalso
          rw [ey, Ren.upd_eq] at hL
          injection hL with hL
          subst hL
          rw [Ren.upd_ne _ _ ez] at hL'
          have := (hs.h.len _ L' hL').2
          simp only at hgg
          omega
      · by_cases ez : z.2.1 = x.2.1
        · exfalso
          rw [ez, Ren.upd_eq] at hL'
          injection hL' with hL'
          subst hL'
          rw [Ren.upd_ne _ _ ey] at hL
          have := (hs.h.len _ L hL).2
          simp only at hgg
          omega
        · rw [Ren.upd_ne _ _ ey] at hL
          rw [Ren.upd_ne _ _ ez] at hL'
          exact hpa.apart y hy z hz L L' hL hL' hgg
  · exact rd h.1.early h.2
/-- As long as one that was read early has not come up, one may. -/
theorem progress {done pend : List Nat} {al : List AB} {E : Tr Value} {H : PH} {listed : Array Bool} {a : Act} {w : World} (hlt : ∀ p ∈ pend, p < ops.length) (hpd : PD ops done pend) (hr : RS C w0 Fr μ0 ops N done pend al E H listed a w) (hnil : Region.ready .any ops.toArray listed = []) : ∀ (m p : Nat), p ≤ m → p ∈ pend → listed.getD p true = true := by
  intro m
  induction m using Nat.strongRecOn with
  | _ m ih =>
    intro p hpm hp
    cases hb : listed.getD p true with
    | true => rfl
    | false =>
      have : p ∈ Region.ready .any ops.toArray listed := ready_iff.2 ⟨hlt p hp, hb, fun q hq => by
        obtain ⟨h1, h2⟩ := hpd.aft p hp q hq
        have h3 : listed.getD q true = true := by
          by_cases e : q ∈ pend
          · exact ih q (by omega) q (Nat.le_refl _) e
          · exact hr.dn q h1 e
        exact getD_ft h3 (by rw [hr.size]; have := hlt p hp; omega)⟩
      rw [hnil] at this
      cases this
theorem subB_mem {l m : List Nat} (h : subB l m = true) : ∀ q ∈ l, q ∈ m := fun q hq => memN_iff.1 (by
  unfold subB at h
  rw [List.all_eq_true] at h
  exact h q hq)
theorem mem_subB {l m : List Nat} (h : ∀ q ∈ l, q ∈ m) : subB l m = true := by
  unfold subB
  rw [List.all_eq_true]
  exact fun q hq => memN_iff.2 (h q hq)
theorem keepC_sub : ∀ {ps S : List Nat} {p : Nat}, p ∈ keepC ops S ps → p ∈ ps
  | [], _, _, h => by simp [keepC] at h
  | q :: ps, S, p, h => by
    unfold keepC at h
    cases hb : memN q S with
    | true => rw [hb] at h; exact List.mem_cons_of_mem _ (keepC_sub h)
    | false =>
      rw [hb] at h
      rcases List.mem_cons.1 h with rfl | h
      · exact List.mem_cons_self ..
      · exact List.mem_cons_of_mem _ (keepC_sub h)
theorem keepC_done {listed : Array Bool} : ∀ {ps S : List Nat} {p : Nat}, (∀ q ∈ ps, listed.getD q true = true → ∀ r ∈ afters ops q, listed.getD r true = true) → (∀ q ∈ S, listed.getD q true = true) → p ∈ ps → p ∉ keepC ops S ps → listed.getD p true = true
  | [], _, _, _, _, h, _ => by cases h
  | q :: ps, S, p, hcl, hS, h, hn => by
    unfold keepC at hn
    cases hb : memN q S with
    | true =>
      rw [hb] at hn
      have hq := hS q (memN_iff.1 hb)
      rcases List.mem_cons.1 h with rfl | h
      · exact hq
      · refine keepC_done (fun r hr => hcl r (List.mem_cons_of_mem _ hr)) (fun r hr => ?_) h hn
        rcases List.mem_append.1 hr with hr | hr
        · exact hcl q (List.mem_cons_self ..) hq r hr
        · exact hS r hr
    | false =>
      rw [hb] at hn
      rcases List.mem_cons.1 h with rfl | h
      · exact absurd (List.mem_cons_self ..) hn
      · exact keepC_done (fun r hr => hcl r (List.mem_cons_of_mem _ hr)) hS h fun hk => hn (List.mem_cons_of_mem _ hk)
theorem Mono.res {H0 H : PH} (h : Mono H0 H) (hn : H.n < trMax) : Mono H0 ⟨H.n + 1, Tr.put 64 H.t H.n none⟩ := ⟨by have := h.len; simp only; omega, fun i b hi hb => by
  obtain ⟨q1, q2⟩ := PH.at_lt hb
  simp only at q1 q2
  rw [Tr.get_set hn] at q2
  have := h.len
  rw [if_neg (by omega)] at q2
  exact h.old i b hi (by rw [PH.at_of (by omega)]; exact q2)⟩
theorem iplan_mono0 {call : CallF} (hT : T.ok P) (hcall : CallOk P call) {H0 : PH} {E' : Tr Value} {H' : PH} : ∀ (plan : List PSeg) (al : List AB) (E : Tr Value) (H : PH), iplan call T N ops plan al E H = some (E', H') → Mono H0 H → (∀ x ∈ al, H0.n ≤ x.2.1 ∧ x.2.1 ≤ 1000000000) → Mono H0 H'
  | [], al, E, H, h, h0, ha => by
    simp only [iplan, commitK_eq, Option.some.injEq, Prod.mk.injEq] at h
    obtain ⟨rfl, rfl⟩ := h
    exact commit_mono _ _ _ h0 ha
  | .rd i :: rest, al, E, H, h, h0, ha => by
    unfold iplan at h
    split at h
    · split at h
      · replace h := bsel_c h; rcases h with ⟨h1, h⟩ | ⟨h1, h⟩
        · split at h
          · obtain ⟨_, h⟩ := setE_t h
            exact iplan_mono0 hT hcall rest _ _ _ h h0 ha
          · cases h
        · obtain ⟨_, h⟩ := setE_t h
          exact iplan_mono0 hT hcall rest _ _ _ h h0 ha
      · cases h
    · cases h
  | .al i :: rest, al, E, H, h, h0, ha => by
    unfold iplan at h
    split at h
    · split at h
      · replace h := bsel_c h; rcases h with ⟨h1, h⟩ | ⟨h1, h⟩
        · split at h
          · replace h := bsel_t h; obtain ⟨hle, h⟩ := h
            replace hle := ble_le hle
            rw [Tr.setK_eq, fN_eq] at h
            obtain ⟨_, h⟩ := setE_t h
            refine iplan_mono0 hT hcall rest _ _ _ h (h0.res (by unfold trMax; omega)) fun x hx => ?_
            rcases List.mem_cons.1 hx with rfl | hx
            · exact ⟨h0.len, hle⟩
            · exact ha x hx
          · cases h
        · obtain ⟨_, h⟩ := setE_t h
          exact iplan_mono0 hT hcall rest _ _ _ h h0 ha
      · cases h
    · cases h
  | .wr i cms chk :: rest, al, E, H, h, h0, ha => by
    unfold iplan at h
    rw [commitK_eq] at h
    have h0' := commit_mono (cms := cms) al [] H h0 ha
    have ha' : ∀ x ∈ (commit cms al [] H).1, H0.n ≤ x.2.1 ∧ x.2.1 ≤ 1000000000 := fun x hx => ha x (by simpa using commit_sub al [] H x hx)
    split at h
    · split at h
      · replace h := bsel_c h; rcases h with ⟨h1, h⟩ | ⟨h1, h⟩
        · obtain ⟨v, H2, h, hm⟩ := iop_mono hT hcall h
          obtain ⟨_, h⟩ := setE_t h
          replace h := bsel_t h
          exact iplan_mono0 hT hcall rest _ _ _ h.2 (h0'.trans hm) ha'
        · obtain ⟨_, h⟩ := setE_t h
          replace h := bsel_t h
          exact iplan_mono0 hT hcall rest _ _ _ h.2 h0' ha'
      · cases h
    · cases h
theorem iplan_mono {call : CallF} (hT : T.ok P) (hcall : CallOk P call) {E' : Tr Value} {H' : PH} (plan : List PSeg) (E : Tr Value) (H : PH) (h : iplan call T N ops plan [] E H = some (E', H')) : Mono H H' := iplan_mono0 hT hcall plan [] E H h (.refl H) fun x hx => by cases hx
/-- What is early, and stands alone. -/
theorem step_static {done pend : List Nat} {i d : Nat} (hpd : PD ops done pend) (hnd : i ∉ done) (haf : ∀ q ∈ afters ops i, q ∈ done) (hback : ∀ x ∈ afters ops i, Nat.blt x i = true) (hd : dstOf ops i = some d) (hslot : slotRd ops i pend = true) :
    (∀ p ∈ pend, d ∉ looksOf ops p ∧ dstOf ops p ≠ some d) ∧ d ∉ looksOf ops i ∧ PD ops (i :: done) (i :: pend) := by
  unfold slotRd at hslot
  replace hslot := and_t hslot; obtain ⟨hsl1, hsl2⟩ := hslot
  rw [List.all_eq_true] at hsl1 hsl2
  -- the slot is no other's
  have hfree : ∀ p ∈ pend, d ∉ looksOf ops p ∧ dstOf ops p ≠ some d := fun p hp => by
    have := hsl1 p hp
    rw [hd] at this
    simp only at this
    replace this := and_t this
    refine ⟨fun hm => ?_, fun he => ?_⟩
    · rw [memN_iff.2 hm] at this
      cases this.1
    · have h2 := this.2
      rw [he] at h2
      simp at h2
  have hlook : ∀ p ∈ i :: pend, ∀ t, dstOf ops p = some t → t ∈ looksOf ops i → p ∈ afters ops i := fun p hp t hpt hm => by
    have := hsl2 p hp
    rw [hpt] at this
    simp only at this
    rw [memN_iff.2 hm] at this
    exact memN_iff.1 (by simpa using this)
  have hpd' : PD ops (i :: done) (i :: pend) := by
    refine ⟨fun p hp => ?_, fun p hp q hq => ?_, fun p hp q hq t hqt hm => ?_, fun p hp q hq hne t hqt hpt => ?_⟩
    · rcases List.mem_cons.1 hp with rfl | hp
      · exact List.mem_cons_self ..
      · exact List.mem_cons_of_mem _ (hpd.sub p hp)
    · rcases List.mem_cons.1 hp with rfl | hp
      · have := hback q hq
        rw [Nat.blt_eq] at this
        exact ⟨List.mem_cons_of_mem _ (haf q hq), this⟩
      · obtain ⟨h1, h2⟩ := hpd.aft p hp q hq
        exact ⟨List.mem_cons_of_mem _ h1, h2⟩
    · rcases List.mem_cons.1 hp with rfl | hp'
      · exact hlook q hq t hqt hm
      · rcases List.mem_cons.1 hq with rfl | hq'
        · rw [hd] at hqt
          injection hqt with hqt
          subst hqt
          exact absurd hm (hfree p hp').1
        · exact hpd.look p hp' q hq' t hqt hm
    · rcases List.mem_cons.1 hp with rfl | hp'
      · rcases List.mem_cons.1 hq with rfl | hq'
        · exact hne rfl
        · rw [hd] at hpt
          injection hpt with hpt
          subst hpt
          exact (hfree q hq').2 hqt
      · rcases List.mem_cons.1 hq with rfl | hq'
        · rw [hd] at hqt
          injection hqt with hqt
          subst hqt
          exact (hfree p hp').2 hpt
        · exact hpd.inj p hp' q hq' hne t hqt hpt
  exact ⟨hfree, fun hm => hnd (haf i (hlook i (List.mem_cons_self ..) d hd hm)), hpd'⟩
/-- **Whatever the order is**, the walk by the plan tells what comes. -/
theorem plan_sound {call : CallF} (hT : T.ok P) (hcall : CallOk P call) (hN : N ≤ trMax) (hdst : ∀ i d, dstOf ops i = some d → d < N) {E' : Tr Value} {H' : PH} : ∀ (plan : List PSeg) (done pend als : List Nat) (al : List AB) (E : Tr Value) (H : PH), okPlan ops plan done pend als = true → PD ops done pend → (∀ p ∈ done, p < ops.length) → (∀ p ∈ pend, EarlyX T ops als al E H p) → (∀ x ∈ al, x.1 ∈ als) → (∀ p ∈ als, p ∈ done) → AL C done al H → iplan call T N ops plan al E H = some (E', H') → CL C H →
    ∀ (m : Nat) (listed : Array Bool) (a : Act) (w : World), cnt listed ops.length ≤ m → RS C w0 Fr μ0 ops N done pend al E H listed a w → wpAny P .any ops.toArray (IPost N C w0 Fr μ0 .normal E' H') m listed a w := by
  intro plan
  induction plan with
  | nil =>
    intro done pend als al E H hok hpd hdl hear hna hals hal hi hC m
    have hlt : ∀ p ∈ pend, p < ops.length := fun p hp => hdl p (hpd.sub p hp)
    simp only [iplan, commitK_eq, Option.some.injEq, Prod.mk.injEq] at hi
    obtain ⟨rfl, rfl⟩ := hi
    unfold okPlan at hok
    rw [List.all_eq_true] at hok
    have hall : ∀ k, k < ops.length → k ∈ done := fun k hk => memN_iff.1 (hok k (List.mem_range.2 hk))
    have post : ∀ {listed : Array Bool} {a : Act} {w : World}, RS C w0 Fr μ0 ops N done pend al E H listed a w → (∀ p ∈ pend, listed.getD p true = true) → IPost N C w0 Fr μ0 .normal E (commit (al.map (·.1)) al [] H).2 .normal a w := by
      intro listed a w hr hex
      obtain ⟨μ, hs, her, hpa⟩ := hr.real
      obtain ⟨_, _, hs', _⟩ := commit_ok (cms := al.map (·.1)) al [] H (by simpa using hal) hC hs (by simpa using hpa) fun x hx _ => by
        by_cases e : x.1 ∈ pend
        · exact hex _ e
        · exact hr.dn _ (hal.dn x hx) e
      refine ⟨rfl, μ, hs', her.size, her.defers, fun s v hv _ => her.val s v hv ?_⟩
      rintro ⟨p, hp, hpu, _⟩
      rw [hex p hp] at hpu
      cases hpu
    induction m with
    | zero =>
      intro listed a w hc hr
      have hz : ∀ k, k < ops.length → listed.getD k true = true := fun k hk => cnt_zero (Nat.le_zero.1 hc) hk
      refine ⟨?_, post hr fun p hp => hz p (hlt p hp)⟩
      apply List.eq_nil_iff_forall_not_mem.2
      intro j hj
      obtain ⟨h1, h2, _⟩ := ready_iff.1 hj
      rw [hz j h1] at h2
      cases h2
    | succ m ih =>
      intro listed a w hc hr
      refine ⟨fun hnil => post hr fun p hp => progress hlt hpd hr hnil p p (Nat.le_refl _) hp, fun j hj => ?_⟩
      obtain ⟨h1, h2, _⟩ := ready_iff.1 hj
      have hjp : j ∈ pend := by
        refine Classical.byContradiction fun hn => ?_
        rw [hr.dn j (hall j h1) hn] at h2
        cases h2
      exact exec_pend hT (fun p _ d hd => hdst p d hd) hpd hear hal hna hr hj hjp fun a' w' hr' => ih _ a' w' (by have := cnt_set h1 h2; omega) hr'
  | cons sg rest ihp =>
    -- an early one: what is alike
    have early : ∀ (i : Nat) (done pend als als' : List Nat) (al al' : List AB) (E : Tr Value) (H H2 : PH) (d : Nat) (v : Value), i < ops.length → i ∉ done → dstOf ops i = some d → (∀ p ∈ pend, d ∉ looksOf ops p ∧ dstOf ops p ≠ some d) → d ∉ looksOf ops i → PD ops (i :: done) (i :: pend) → okPlan ops rest (i :: done) (i :: pend) als' = true → (∀ p ∈ done, p < ops.length) → (∀ p ∈ pend, EarlyX T ops als al E H p) →
        (∀ p ∈ pend, EarlyX T ops als al E H p → EarlyX T ops als' al' E H2 p) → dstOk N (some d) = true → (dstOk N (some d) = true → EarlyX T ops als' al' (putE E (some d) v) H2 i) → (∀ x ∈ al', x.1 ∈ als') → (∀ p ∈ als', p ∈ i :: done) → AL C (i :: done) al' H2 → CL C H2 → iplan call T N ops rest al' (putE E (some d) v) H2 = some (E', H') →
        ∀ (m : Nat) (listed : Array Bool) (a : Act) (w : World), cnt listed ops.length ≤ m → RS C w0 Fr μ0 ops N done pend al E H listed a w → (∀ μ, listed.getD i true = false → Sim C w0 Fr μ0 μ H.abs w → PA al listed μ H w → Sim C w0 Fr μ0 μ H2.abs w ∧ PA al' listed μ H2 w) → wpAny P .any ops.toArray (IPost N C w0 Fr μ0 .normal E' H') m listed a w := by
      intro i done pend als als' al al' E H H2 d v hil hnd hd hfree hdi hpd' hrest hdl hear hmv hdk hi' hna' hals' hal' hC2 hi m listed a w hc hr hreal
      have hdl' : ∀ p ∈ i :: done, p < ops.length := fun p hp => by
        rcases List.mem_cons.1 hp with rfl | hp
        · exact hil
        · exact hdl p hp
      have hget : ∀ s, (putE E (some d) v).get s = if s = d then some v else E.get s := fun s => putE_get hN hdk
      have hear' : ∀ p ∈ i :: pend, EarlyX T ops als' al' (putE E (some d) v) H2 p := fun p hp => by
        rcases List.mem_cons.1 hp with rfl | hp
        · exact hi' hdk
        · refine (hmv p hp (hear p hp)).same (fun x _ => Iff.rfl) (fun t ht => ?_) (fun e he => ?_)
          · rw [hget, if_neg]
            rintro rfl
            exact (hfree p hp).1 ht
          · rw [hget, if_neg]
            rintro rfl
            exact (hfree p hp).2 he
      refine ihp (i :: done) (i :: pend) als' al' _ H2 hrest hpd' hdl' hear' hna' hals' hal' hi hC2 m listed a w hc ?_
      have hiu : listed.getD i true = false := by
        cases hb : listed.getD i true with
        | false => rfl
        | true => exact absurd (hr.up i hil hb) hnd
      refine ⟨hr.size, fun k hk hl => List.mem_cons_of_mem _ (hr.up k hk hl), fun k hkd hkp => ?_, fun p hp hl q hq => ?_, ?_⟩
      · rcases List.mem_cons.1 hkd with rfl | hkd
        · exact absurd (List.mem_cons_self ..) hkp
        · exact hr.dn k hkd fun h => hkp (List.mem_cons_of_mem _ h)
      · rcases List.mem_cons.1 hp with rfl | hp
        · rw [hiu] at hl; cases hl
        · exact hr.cl p hp hl q hq
      · obtain ⟨μ, hs, her, hpa⟩ := hr.real
        obtain ⟨hs2, hpa2⟩ := hreal μ hiu hs hpa
        refine ⟨μ, hs2, ⟨her.size, her.defers, fun s u hsu hx => ?_⟩, hpa2⟩
        have hsd : s ≠ d := by
          rintro rfl
          exact hx ⟨i, List.mem_cons_self .., hiu, hd⟩
        rw [hget, if_neg hsd] at hsu
        exact her.val s u hsu fun ⟨p, hp, hpu, hpd2⟩ => hx ⟨p, List.mem_cons_of_mem _ hp, hpu, hpd2⟩
    -- reads and guards, the slot put
    have put_rd : ∀ (i d : Nat) (v : Value) (E : Tr Value) (o : Oper), ops[i]? = some o → o.dst = some d → d ∉ looksOf ops i → dstOk N (some d) = true → (putE E (some d) v).get d = some v ∧ igd ops (putE E (some d) v) o = igd ops E o ∧ (∀ H, ird T (putE E (some d) v) H o.op = ird T E H o.op) ∧ ialloc T (putE E (some d) v) o.op = ialloc T E o.op := fun i d v E o ho hod hdi hdk => by
      have hget : ∀ s, (putE E (some d) v).get s = if s = d then some v else E.get s := fun s => putE_get hN hdk
      have e1 : ∀ t ∈ looks ops o, (putE E (some d) v).get t = E.get t := fun t ht => by
        rw [hget, if_neg]
        rintro rfl
        exact hdi (by unfold looksOf; rw [ho]; exact ht)
      have e2 : ∀ x ∈ o.op.operands.toList, opd (putE E (some d) v) x = opd E x := fun x hx => opd_same fun t ht => e1 t (by unfold looks; exact List.mem_append_left _ (List.mem_flatMap.2 ⟨x, hx, ht⟩))
      exact ⟨by rw [hget, if_pos rfl], igd_same fun s hs => e1 s (by unfold looks; rw [hs]; simp), fun H => ird_same e2, ialloc_same e2⟩
    cases sg with
    | rd i =>
      intro done pend als al E H hok hpd hdl hear hna hals hal hi hC m listed a w hc hr
      unfold okPlan at hok
      replace hok := and_t hok; obtain ⟨hok, hrest⟩ := hok
      replace hok := and_t hok; obtain ⟨hok, hslot⟩ := hok
      replace hok := and_t hok; obtain ⟨hok, hdsome⟩ := hok
      replace hok := and_t hok; obtain ⟨hok, hback⟩ := hok
      replace hok := and_t hok; obtain ⟨hok, haf⟩ := hok
      replace hok := and_t hok; obtain ⟨hil, hnd⟩ := hok
      have hil : i < ops.length := by rw [← Nat.blt_eq]; exact hil
      have hnd : i ∉ done := fun h => by rw [memN_iff.2 h] at hnd; cases hnd
      have haf := subB_mem haf
      rw [List.all_eq_true] at hback
      obtain ⟨d, hd⟩ := Option.isSome_iff_exists.1 hdsome
      have ho : ops[i]? = some ops[i] := List.getElem?_eq_getElem hil
      have hod : ops[i].dst = some d := by
        unfold dstOf at hd
        rw [ho] at hd
        exact hd
      obtain ⟨hfree, hdi, hpd'⟩ := step_static hpd hnd haf hback hd hslot
      have hia : i ∉ als := fun h => hnd (hals i h)
      have key : ∀ v, ((igd ops E ops[i] = some true ∧ ird T E H ops[i].op = some v) ∨ (igd ops E ops[i] = some false ∧ v = undef)) → dstOk N ops[i].dst = true → iplan call T N ops rest al (putE E ops[i].dst v) H = some (E', H') → wpAny P .any ops.toArray (IPost N C w0 Fr μ0 .normal E' H') m listed a w := by
        intro v hv hdk hi
        rw [hod] at hdk hi
        refine early i done pend als als al al E H H d v hil hnd hd hfree hdi hpd' hrest hdl hear (fun _ _ h => h) hdk (fun hdk => .inl ⟨hia, ?_⟩) hna (fun p hp => List.mem_cons_of_mem _ (hals p hp)) ⟨fun x hx => List.mem_cons_of_mem _ (hal.dn x hx), hal.at_, hal.ok, hal.ids, hal.inj⟩ hC hi m listed a w hc hr fun μ _ h1 h2 => ⟨h1, h2⟩
        obtain ⟨e1, e2, e3, _⟩ := put_rd i d v E _ ho hod hdi hdk
        exact ⟨ops[i], d, v, ho, hod, e1, by rw [e2, e3]; exact hv⟩
      unfold iplan at hi
      rw [ho] at hi
      simp only at hi
      split at hi
      · rename_i b hb
        replace hi := bsel_c hi; rcases hi with ⟨hb1, hi⟩ | ⟨hb1, hi⟩
        · subst hb1
          split at hi
          · rename_i v hv
            obtain ⟨h1, h2⟩ := setE_t hi
            exact key v (.inl ⟨hb, hv⟩) h1 h2
          · cases hi
        · subst hb1
          obtain ⟨h1, h2⟩ := setE_t hi
          exact key undef (.inr ⟨hb, rfl⟩) h1 h2
      · cases hi
    | al i =>
      intro done pend als al E H hok hpd hdl hear hna hals hal hi hC m listed a w hc hr
      unfold okPlan at hok
      replace hok := and_t hok; obtain ⟨hok, hrest⟩ := hok
      replace hok := and_t hok; obtain ⟨hok, hslot⟩ := hok
      replace hok := and_t hok; obtain ⟨hok, hdsome⟩ := hok
      replace hok := and_t hok; obtain ⟨hok, hback⟩ := hok
      replace hok := and_t hok; obtain ⟨hok, haf⟩ := hok
      replace hok := and_t hok; obtain ⟨hil, hnd⟩ := hok
      have hil : i < ops.length := by rw [← Nat.blt_eq]; exact hil
      have hnd : i ∉ done := fun h => by rw [memN_iff.2 h] at hnd; cases hnd
      have haf := subB_mem haf
      rw [List.all_eq_true] at hback
      obtain ⟨d, hd⟩ := Option.isSome_iff_exists.1 hdsome
      have ho : ops[i]? = some ops[i] := List.getElem?_eq_getElem hil
      have hod : ops[i].dst = some d := by
        unfold dstOf at hd
        rw [ho] at hd
        exact hd
      obtain ⟨hfree, hdi, hpd'⟩ := step_static hpd hnd haf hback hd hslot
      have hia : i ∉ als := fun h => hnd (hals i h)
      have hix : ∀ x ∈ al, x.1 ≠ i := fun x hx e => hia (e ▸ hna x hx)
      have hpi : ∀ p ∈ pend, p ≠ i := fun p hp e => hnd (e ▸ hpd.sub p hp)
      have hals' : ∀ p ∈ i :: als, p ∈ i :: done := fun p hp => by
        rcases List.mem_cons.1 hp with rfl | hp
        · exact List.mem_cons_self ..
        · exact List.mem_cons_of_mem _ (hals p hp)
      have mv : ∀ (al' : List AB) (H2 : PH), (∀ (x : AB) p, p ∈ pend → x.1 = p → (x ∈ al ↔ x ∈ al')) → (∀ p E, Early T ops E H p → Early T ops E H2 p) → ∀ p ∈ pend, EarlyX T ops als al E H p → EarlyX T ops (i :: als) al' E H2 p := fun al' H2 hx2 hE p hp h => by
        rcases h with ⟨h0, h⟩ | ⟨h0, ⟨o, d, x, vf, h1, h2, h3, h4, h5⟩ | h⟩
        · refine .inl ⟨fun hm => ?_, hE p E h⟩
          rcases List.mem_cons.1 hm with e | hm
          · exact hpi p hp e
          · exact h0 hm
        · exact .inr ⟨List.mem_cons_of_mem _ h0, .inl ⟨o, d, x, vf, h1, h2, (hx2 x p hp h4).1 h3, h4, h5⟩⟩
        · exact .inr ⟨List.mem_cons_of_mem _ h0, .inr ⟨h.1, fun x hx e => h.2 x ((hx2 x p hp e).2 hx) e⟩⟩
      unfold iplan at hi
      rw [ho] at hi
      simp only at hi
      split at hi
      · rename_i b hb
        replace hi := bsel_c hi; rcases hi with ⟨hb1, hi⟩ | ⟨hb1, hi⟩
        · subst hb1
          split at hi
          · rename_i fb vf hv
            replace hi := bsel_t hi; obtain ⟨hle, hi⟩ := hi
            replace hle := ble_le hle
            have hsm : H.n < trMax := by unfold trMax; omega
            rw [Tr.setK_eq, fN_eq] at hi
            obtain ⟨hdk, hi⟩ := setE_t hi
            rw [hod] at hdk hi
            have hat : ∀ k, PH.at ⟨H.n + 1, Tr.put 64 H.t H.n none⟩ k = H.at k := fun k => by
              unfold PH.at
              simp only
              rw [Tr.get_set hsm]
              rcases Nat.lt_trichotomy k H.n with e | e | e
              · have h1 : Nat.blt k (H.n + 1) = true := by rw [Nat.blt_eq]; omega
                have h2 : Nat.blt k H.n = true := by rw [Nat.blt_eq]; omega
                rw [h1, h2, if_neg (by omega)]
              · subst e
                have h1 : Nat.blt H.n (H.n + 1) = true := by rw [Nat.blt_eq]; omega
                have h2 : Nat.blt H.n H.n = false := by
                  cases hb : Nat.blt H.n H.n with
                  | false => rfl
                  | true => rw [Nat.blt_eq] at hb; omega
                rw [h1, h2, if_pos rfl]
                rfl
              · have h1 : Nat.blt k (H.n + 1) = false := by
                  cases hb : Nat.blt k (H.n + 1) with
                  | false => rfl
                  | true => rw [Nat.blt_eq] at hb; omega
                have h2 : Nat.blt k H.n = false := by
                  cases hb : Nat.blt k H.n with
                  | false => rfl
                  | true => rw [Nat.blt_eq] at hb; omega
                rw [h1, h2]
                rfl
            have hnone : H.at H.n = none := by
              cases hb : H.at H.n with
              | none => rfl
              | some b => have := (PH.at_lt hb).1; omega
            obtain ⟨env, henv⟩ := sees_big E (ops[i].op.operands.toList.flatMap opTmps)
            obtain ⟨hfb, _⟩ := ialloc_new hT henv hv
            have hids : ∀ x ∈ al, x.2.1 ≠ H.n := fun x hx => by have := (hal.at_ x hx).1; omega
            refine early i done pend als (i :: als) al ((i, H.n, fb) :: al) E H ⟨H.n + 1, Tr.put 64 H.t H.n none⟩ d (vf H.n) hil hnd hd hfree hdi hpd' hrest hdl hear (mv _ _ (fun x p hp e => ⟨fun h => List.mem_cons_of_mem _ h, fun h => ?_⟩) fun p E h => ?_) hdk (fun hdk => .inr ⟨List.mem_cons_self .., .inl ?_⟩) (fun x hx => ?_) hals' ⟨fun x hx => ?_, fun x hx => ?_, fun x hx => ?_, ?_, fun x hx y hy e => ?_⟩ ⟨by have := hC.1; simp only; omega, fun k b hk => hC.2 k b (by rw [← hat k]; exact hk)⟩ hi m listed a w hc hr fun μ hiu h1 h2 => ⟨?_, ⟨fun x hx hl => ?_, fun x hx hl => ?_, fun x hx y hy L L' hL hL' hgg => ?_⟩⟩
            · rcases List.mem_cons.1 h with rfl | h
              · exact absurd e.symm (hpi p hp)
              · exact h
            · obtain ⟨o, d, v, q1, q2, q3, q4⟩ := h
              refine ⟨o, d, v, q1, q2, q3, ?_⟩
              rcases q4 with ⟨q4, q5⟩ | q4
              · exact .inl ⟨q4, ird_at hat q5⟩
              · exact .inr q4
            · obtain ⟨e1, e2, _, e4⟩ := put_rd i d (vf H.n) E _ ho hod hdi hdk
              exact ⟨ops[i], d, (i, H.n, fb), vf, ho, hod, List.mem_cons_self .., rfl, e1, by rw [e2]; exact hb, by rw [e4]; exact hv⟩
            · rcases List.mem_cons.1 hx with rfl | hx
              · exact List.mem_cons_self ..
              · exact List.mem_cons_of_mem _ (hna x hx)
            · rcases List.mem_cons.1 hx with rfl | hx
              · exact List.mem_cons_self ..
              · exact List.mem_cons_of_mem _ (hal.dn x hx)
            · rw [hat]
              rcases List.mem_cons.1 hx with rfl | hx
              · exact ⟨Nat.lt_succ_self _, hnone, hC.1, hle⟩
              · obtain ⟨q1, q2⟩ := hal.at_ x hx
                exact ⟨Nat.lt_succ_of_lt q1, q2⟩
            · rcases List.mem_cons.1 hx with rfl | hx
              · exact hfb
              · exact hal.ok x hx
            · rw [List.map_cons, List.nodup_cons]
              refine ⟨fun hm => ?_, hal.ids⟩
              obtain ⟨x, hx, e⟩ := List.mem_map.1 hm
              exact hids x hx e
            · rcases List.mem_cons.1 hx with rfl | hx
              · rcases List.mem_cons.1 hy with rfl | hy
                · rfl
                · exact absurd e.symm (hix y hy)
              · rcases List.mem_cons.1 hy with rfl | hy
                · exact absurd e (hix x hx)
                · exact hal.inj x hx y hy e
            · rw [PH.abs_res hsm]
              exact h1.res
            · rcases List.mem_cons.1 hx with rfl | hx
              · cases hm : μ H.n with
                | none => rfl
                | some L => have := (h1.h.len _ L hm).1; simp at this
              · exact h2.no x hx hl
            · rcases List.mem_cons.1 hx with rfl | hx
              · rw [hiu] at hl; cases hl
              · obtain ⟨g, rs, t, p1, p2, p3, p4⟩ := h2.yes x hx hl
                refine ⟨g, rs, t, p1, p2, p3, fun k b M hk hM => p4 k b M ?_ hM⟩
                rw [PH.abs_res hsm] at hk
                exact at_res hk
            · have hn : μ H.n = none := by
                cases hm : μ H.n with
                | none => rfl
                | some L => have := (h1.h.len _ L hm).1; simp at this
              rcases List.mem_cons.1 hx with rfl | hx
              · rw [hn] at hL; cases hL
              · rcases List.mem_cons.1 hy with rfl | hy
                · rw [hn] at hL'; cases hL'
                · exact h2.apart x hx y hy L L' hL hL' hgg
          · cases hi
        · subst hb1
          obtain ⟨hdk, hi⟩ := setE_t hi
          rw [hod] at hdk hi
          refine early i done pend als (i :: als) al al E H H d undef hil hnd hd hfree hdi hpd' hrest hdl hear (mv _ _ (fun _ _ _ _ => Iff.rfl) fun _ _ h => h) hdk (fun hdk => .inr ⟨List.mem_cons_self .., .inr ⟨?_, hix⟩⟩) (fun x hx => List.mem_cons_of_mem _ (hna x hx)) hals' ⟨fun x hx => List.mem_cons_of_mem _ (hal.dn x hx), hal.at_, hal.ok, hal.ids, hal.inj⟩ hC hi m listed a w hc hr fun μ _ h1 h2 => ⟨h1, h2⟩
          obtain ⟨e1, e2, _, _⟩ := put_rd i d undef E _ ho hod hdi hdk
          exact ⟨ops[i], d, ho, hod, e1, by rw [e2]; exact hb⟩
      · cases hi
    | wr i cms chk =>
      intro done pend als al E H hok hpd hdl hear hna hals hal hi hC m
      have hlt : ∀ p ∈ pend, p < ops.length := fun p hp => hdl p (hpd.sub p hp)
      unfold iplan at hi
      rw [commitK_eq] at hi
      unfold okPlan at hok
      replace hok := and_t hok; obtain ⟨hok, hrest⟩ := hok
      replace hok := and_t hok; obtain ⟨hok, hcms⟩ := hok
      replace hok := and_t hok; obtain ⟨hok, hchk⟩ := hok
      replace hok := and_t hok; obtain ⟨hok, hslot⟩ := hok
      replace hok := and_t hok; obtain ⟨hok, huniq⟩ := hok
      replace hok := and_t hok; obtain ⟨hok, haf⟩ := hok
      replace hok := and_t hok; obtain ⟨hil, hnd⟩ := hok
      have hil : i < ops.length := by rw [← Nat.blt_eq]; exact hil
      have hnd : i ∉ done := fun h => by rw [memN_iff.2 h] at hnd; cases hnd
      have haf := subB_mem haf
      rw [List.all_eq_true] at huniq hchk hcms
      unfold slotWr at hslot
      replace hslot := and_t hslot; obtain ⟨hsl1, hsl2⟩ := hslot
      rw [List.all_eq_true] at hsl1 hsl2
      have hnp : i ∉ pend := fun h => hnd (hpd.sub i h)
      have ho : ops[i]? = some ops[i] := List.getElem?_eq_getElem hil
      rw [ho] at hi
      simp only at hi
      have hod : dstOf ops i = ops[i].dst := by unfold dstOf; rw [ho]
      have hlk : looksOf ops i = looks ops ops[i] := by unfold looksOf; rw [ho]
      have hksub : ∀ p ∈ keepC ops (afters ops i) pend, p ∈ pend := fun p hp => keepC_sub hp
      have hfree : ∀ p ∈ keepC ops (afters ops i) pend, ∀ d, ops[i].dst = some d → d ∉ looksOf ops p ∧ dstOf ops p ≠ some d := fun p hp d hd => by
        have := hsl1 p hp
        rw [hod, hd] at this
        simp only at this
        replace this := and_t this
        refine ⟨fun hm => ?_, fun he => ?_⟩
        · rw [memN_iff.2 hm] at this
          cases this.1
        · have h2 := this.2
          rw [he] at h2
          simp at h2
      have hlook : ∀ p ∈ pend, ∀ t, dstOf ops p = some t → t ∈ looks ops ops[i] → p ∈ afters ops i := fun p hp t hpt hm => by
        have := hsl2 p hp
        rw [hpt] at this
        simp only at this
        rw [hlk, memN_iff.2 hm] at this
        exact memN_iff.1 (by simpa using this)
      have hpd' : PD ops (i :: done) (keepC ops (afters ops i) pend) :=
        ⟨fun p hp => List.mem_cons_of_mem _ (hpd.sub p (hksub p hp)), fun p hp q hq => ⟨List.mem_cons_of_mem _ (hpd.aft p (hksub p hp) q hq).1, (hpd.aft p (hksub p hp) q hq).2⟩,
          fun p hp q hq t hqt hm => hpd.look p (hksub p hp) q (hksub q hq) t hqt hm, fun p hp q hq hne t hqt hpt => hpd.inj p (hksub p hp) q (hksub q hq) hne t hqt hpt⟩
      induction m with
      | zero =>
        intro listed a w hc hr
        exact absurd (hr.up i hil (cnt_zero (Nat.le_zero.1 hc) hil)) hnd
      | succ m ih =>
        intro listed a w hc hr
        have hiu : listed.getD i true = false := by
          cases hb : listed.getD i true with
          | false => rfl
          | true => exact absurd (hr.up i hil hb) hnd
        refine ⟨fun hnil => ?_, fun j hj => ?_⟩
        · exfalso
          have : i ∈ Region.ready .any ops.toArray listed := ready_iff.2 ⟨hil, hiu, fun q hq => by
            have h3 : listed.getD q true = true := by
              by_cases e : q ∈ pend
              · exact progress hlt hpd hr hnil q q (Nat.le_refl _) e
              · exact hr.dn q (haf q hq) e
            exact getD_ft h3 (by rw [hr.size]; exact hdl q (haf q hq))⟩
          rw [hnil] at this
          cases this
        · obtain ⟨h1, h2, h3⟩ := ready_iff.1 hj
          by_cases hjd : j ∈ done
          · have hjp : j ∈ pend := Classical.byContradiction fun hn => by
              rw [hr.dn j hjd hn] at h2
              cases h2
            exact exec_pend hT (fun p _ d hd => hdst p d hd) hpd hear hal hna hr hj hjp fun a' w' hr' => ih _ a' w' (by have := cnt_set h1 h2; omega) hr'
          · have hji : j = i := by
              have := huniq j (List.mem_range.2 h1)
              have e1 : memN j done = false := by
                cases hb : memN j done with
                | false => rfl
                | true => exact absurd (memN_iff.1 hb) hjd
              have e2 : subB (afters ops j) done = true := mem_subB fun q hq => by
                have := h3 q hq
                have hql : q < ops.length := by
                  rw [← hr.size]
                  rcases Nat.lt_or_ge q listed.size with h | h
                  · exact h
                  · simp [Array.getD, Nat.not_lt.2 h] at this
                exact hr.up q hql (getD_tf this)
              rw [e1, e2] at this
              simpa using this
            subst hji
            -- the writer
            obtain ⟨μ, hs, her, hpa⟩ := hr.real
            have hsee : Sees (envR E (fun s => ∃ p ∈ pend, listed.getD p true = false ∧ dstOf ops p = some s) N) E (looks ops ops[j]) := by
              refine her.sees ?_
              rintro t ht ⟨p, hpp, hpu, hpd2⟩
              have := getD_tf (h3 p (hlook p hpp t hpd2 ht))
              rw [hpu] at this
              cases this
            have hdrop : ∀ p ∈ pend, p ∉ keepC ops (afters ops j) pend → listed.getD p true = true := fun p hp hn => keepC_done hr.cl (fun q hq => getD_tf (h3 q hq)) hp hn
            -- the blocks that stand by now
            have hup : ∀ x ∈ al, memN x.1 cms = true → listed.getD x.1 true = true := fun x hx hm => by
              by_cases e : x.1 ∈ pend
              · refine hdrop _ e fun hk => ?_
                have := hcms _ (memN_iff.1 hm)
                rw [memN_iff.2 hk] at this
                cases this
              · exact hr.dn _ (hal.dn x hx) e
            obtain ⟨hal1, hC1, hs1, hpa1⟩ := commit_ok (cms := cms) al [] H (by simpa using hal) hC hs (by simpa using hpa) hup
            have hsub1 : ∀ x ∈ (commit cms al [] H).1, x ∈ al := fun x hx => by simpa using commit_sub al [] H x hx
            have hiff : ∀ p ∈ keepC ops (afters ops j) pend, ∀ x : AB, x.1 = p → (x ∈ al ↔ x ∈ (commit cms al [] H).1) := fun p hp x hxp => ⟨fun h => commit_keeps al [] H x (.inl ⟨h, by
              cases hm : memN x.1 cms with
              | false => rfl
              | true =>
                have := hcms _ (memN_iff.1 hm)
                rw [hxp, memN_iff.2 hp] at this
                cases this⟩), hsub1 x⟩
            generalize (commit cms al [] H).1 = al1 at hal1 hpa1 hsub1 hiff hi
            have fin : ∀ (v rv : Value) (H2 : PH) (w' : World) (μ' : Ren), dstOk N ops[j].dst = true → Sim C w0 Fr μ0 μ' H2.abs w' → Ext' μ μ' → VR μ' v rv → PA al1 listed μ' H2 w' → AL C done al1 H2 → (∀ p ∈ keepC ops (afters ops j) pend, EarlyX T ops als al1 (putE E ops[j].dst v) H2 p) → iplan call T N ops rest al1 (putE E ops[j].dst v) H2 = some (E', H') → CL C H2 →
                wpAny P .any ops.toArray (IPost N C w0 Fr μ0 .normal E' H') m (listed.setIfInBounds j true) (a.put ops[j].dst rv) w' := by
              intro v rv H2 w' μ' hdk hs' hx hrv hpa0 hal2 hear' hi2 hC2
              have hxj : ∀ x ∈ al1, x.1 ≠ j := fun x hx2 e => hnd (e ▸ hal2.dn x hx2)
              have hpa' : PA al1 (listed.setIfInBounds j true) μ' H2 w' := ⟨fun x hx2 hl => hpa0.no x hx2 (by rw [← getD_set_other (hxj x hx2)]; exact hl), fun x hx2 hl => hpa0.yes x hx2 (by rw [← getD_set_other (hxj x hx2)]; exact hl), hpa0.apart⟩
              refine ihp (j :: done) (keepC ops (afters ops j) pend) als al1 _ H2 hrest hpd' (fun p hp => by rcases List.mem_cons.1 hp with rfl | hp; exact hil; exact hdl p hp) hear' (fun x hx2 => hna x (hsub1 x hx2)) (fun p hp => List.mem_cons_of_mem _ (hals p hp)) ⟨fun x hx2 => List.mem_cons_of_mem _ (hal2.dn x hx2), hal2.at_, hal2.ok, hal2.ids, hal2.inj⟩ hi2 hC2 m _ _ _ (by have := cnt_set h1 h2; omega) ?_
              refine ⟨by simpa using hr.size, fun k hk hl => ?_, fun k hkd hkp => ?_, fun p hp hl q hq => ?_, μ', hs', ?_, hpa'⟩
              · by_cases e : k = j
                · subst e; exact List.mem_cons_self ..
                · rw [getD_set_other e] at hl
                  exact List.mem_cons_of_mem _ (hr.up k hk hl)
              · rcases List.mem_cons.1 hkd with rfl | hkd
                · exact getD_set_eq
                · refine getD_set_up ?_
                  by_cases e : k ∈ pend
                  · exact hdrop k e hkp
                  · exact hr.dn k hkd e
              · have hpj : p ≠ j := fun e => hnp (e ▸ hksub p hp)
                rw [getD_set_other hpj] at hl
                exact getD_set_up (hr.cl p (hksub p hp) hl q hq)
              · cases hd : ops[j].dst with
                | none =>
                  refine ⟨her.size, her.defers, fun s u hsu hx' => ?_⟩
                  obtain ⟨v', q1, q2⟩ := her.val s u hsu (by
                    rintro ⟨p, hpp, hpu, hpd2⟩
                    have hpk : p ∈ keepC ops (afters ops j) pend := Classical.byContradiction fun hn => by
                      rw [hdrop p hpp hn] at hpu
                      cases hpu
                    have hpj : p ≠ j := fun e => hnp (e ▸ hpp)
                    exact hx' ⟨p, hpk, by rw [getD_set_other hpj]; exact hpu, hpd2⟩)
                  exact ⟨v', q1, q2.mono hx⟩
                | some d =>
                  rw [hd] at hdk
                  have hdN : d < N := by
                    have : Nat.blt d N = true := hdk
                    rwa [Nat.blt_eq] at this
                  refine ⟨by simp [Act.put, her.size], her.defers, fun s u hsu hx' => ?_⟩
                  rw [putE_get hN hdk] at hsu
                  by_cases e : s = d
                  · subst e
                    rw [if_pos rfl] at hsu
                    injection hsu with hsu
                    subst hsu
                    refine ⟨rv, ?_, hrv⟩
                    simp [Act.put, her.size, hdN]
                  · rw [if_neg e] at hsu
                    obtain ⟨v', q1, q2⟩ := her.val s u hsu (by
                      rintro ⟨p, hpp, hpu, hpd2⟩
                      have hpk : p ∈ keepC ops (afters ops j) pend := Classical.byContradiction fun hn => by
                        rw [hdrop p hpp hn] at hpu
                        cases hpu
                      have hpj : p ≠ j := fun e => hnp (e ▸ hpp)
                      exact hx' ⟨p, hpk, by rw [getD_set_other hpj]; exact hpu, hpd2⟩)
                    refine ⟨v', ?_, q2.mono hx⟩
                    simp only [Act.put]
                    rw [Array.getElem?_setIfInBounds_ne (Ne.symm e)]
                    exact q1
            -- what was early, behind it
            have same : ∀ (v : Value), dstOk N ops[j].dst = true → ∀ p ∈ keepC ops (afters ops j) pend, EarlyX T ops als al1 (putE E ops[j].dst v) H p := fun v hdk p hp => by
              refine (hear p (hksub p hp)).same (hiff p hp) (fun t ht => ?_) (fun e he => ?_)
              · cases hd : ops[j].dst with
                | none => rfl
                | some d =>
                  rw [hd] at hdk
                  rw [putE_get hN hdk, if_neg]
                  rintro rfl
                  exact (hfree p hp _ hd).1 ht
              · cases hd : ops[j].dst with
                | none => rfl
                | some d =>
                  rw [hd] at hdk
                  rw [putE_get hN hdk, if_neg]
                  rintro rfl
                  exact (hfree p hp _ hd).2 he
            have anew : ∀ (v : Value) (H2 : PH), dstOk N ops[j].dst = true → (∀ x ∈ chk, again T ops (putE E ops[j].dst v) H2 x = true) → ∀ p ∈ keepC ops (afters ops j) pend, EarlyX T ops als al1 (putE E ops[j].dst v) H2 p := fun v H2 hdk hag p hp => by
              rcases same v hdk p hp with ⟨h0, h⟩ | h
              · refine .inl ⟨h0, ?_⟩
                obtain ⟨o, d, v, q1, q2, q3, q4⟩ := h
                refine ⟨o, d, v, q1, q2, q3, ?_⟩
                rcases q4 with ⟨q4, q5⟩ | q4
                · have := hchk p hp
                  have e0 : memN p als = false := by
                    cases hb : memN p als with
                    | false => rfl
                    | true => exact absurd (memN_iff.1 hb) h0
                  rw [e0, Bool.false_or] at this
                  rcases Bool.or_eq_true _ _ ▸ this with hc1 | hc1
                  · have hag := hag p (memN_iff.1 hc1)
                    unfold again at hag
                    rw [q1] at hag
                    simp only at hag
                    rw [q2] at hag
                    simp only at hag
                    rw [q3, q4] at hag
                    simp only at hag
                    split at hag
                    · rename_i v' hv'
                      have := veq_eq hag
                      subst this
                      exact .inl ⟨q4, hv'⟩
                    · cases hag
                  · unfold pureAt at hc1
                    rw [q1] at hc1
                    exact .inl ⟨q4, by rw [← q5]; exact pure_ird hc1⟩
                · exact .inr q4
              · exact .inr h
            unfold wpOp
            rw [List.getElem?_toArray, ho]
            simp only
            split at hi
            · rename_i b hb
              have hw := igd_real her.er hsee hb
              rw [hw]
              replace hi := bsel_c hi; rcases hi with ⟨hb1, hi⟩ | ⟨hb1, hi⟩
              · subst hb1
                rw [if_pos rfl]
                obtain ⟨v, H2, hg, hi, hmn⟩ := iop_sound (C := ⟨live (commit cms al [] H).2, (commit cms al [] H).2.abs.length⟩) hT hcall ⟨by simp, fun i b hb => .inl (mem_live hb)⟩ hsee.left hi
                obtain ⟨hdk, hi⟩ := setE_t hi
                replace hi := bsel_t hi; obtain ⟨hag, hi⟩ := hi
                rw [List.all_eq_true] at hag
                refine .inl (writer_ok hg hmn hC1 hal1 hs1 her.er hpa1 fun rv w' μ' hs' hx hrv hpa' => ?_)
                exact fin v rv H2 w' μ' hdk hs' hx hrv hpa' (hal1.after hmn) (anew v H2 hdk hag) hi (hC1.mono hmn)
              · subst hb1
                rw [if_neg (by simp)]
                obtain ⟨hdk, hi⟩ := setE_t hi
                replace hi := bsel_t hi; obtain ⟨hag, hi⟩ := hi
                refine fin undef undef _ w μ hdk hs1 (Ext'.refl μ) (.tuple .nil) hpa1 hal1 ?_ hi hC1
                rcases Bool.or_eq_true _ _ ▸ hag with h | h
                · have e : cms = [] := by simpa using h
                  rw [e, commit_nil]
                  exact same undef hdk
                · rw [List.all_eq_true] at h
                  exact anew undef _ hdk h
            · cases hi
end
end Go.Proofs.Ytcbngjpihcemiaa
