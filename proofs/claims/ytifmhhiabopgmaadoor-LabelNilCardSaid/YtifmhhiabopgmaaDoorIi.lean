/- The quick heap: regions that draw their order, whatever it is. -/
import Derived.Test.YtifmhhiabopgmaaDoorIh
namespace Go.Proofs.YtifmhhiabopgmaaDoor
open Go.RowKit

theorem getD_tf {l : Array Bool} {k : Nat} (h : l.getD k false = true) : l.getD k true = true := by
  by_cases e : k < l.size
  · simp [Array.getD, e] at h ⊢; exact h
  · simp [Array.getD, e] at h
theorem getD_ft {l : Array Bool} {k : Nat} (h : l.getD k true = true) (hk : k < l.size) : l.getD k false = true := by
  simp [Array.getD, hk] at h ⊢
  exact h
theorem getD_lt {l : Array Bool} {k : Nat} (h : l.getD k true = false) : k < l.size := by
  rcases Nat.lt_or_ge k l.size with e | e
  · exact e
  · simp [Array.getD, Nat.not_lt.2 e] at h
theorem getD_set_eq {l : Array Bool} {k : Nat} : (l.setIfInBounds k true).getD k true = true := by
  by_cases e : k < l.size
  · simp [Array.getD, e]
  · simp [Array.getD, e]
theorem getD_set_other {l : Array Bool} {k j : Nat} (h : k ≠ j) : (l.setIfInBounds j true).getD k true = l.getD k true := by
  by_cases e : k < l.size
  · simp [Array.getD, e, Array.getElem_setIfInBounds_ne, Ne.symm h]
  · simp [Array.getD, e]
theorem getD_set_up {l : Array Bool} {k j : Nat} (h : l.getD k true = true) : (l.setIfInBounds j true).getD k true = true := by
  by_cases e : k = j
  · subst e; exact getD_set_eq
  · rw [getD_set_other e]; exact h
/-- How many have not come up. -/
def cnt (l : Array Bool) (n : Nat) : Nat := ((List.range n).filter fun k => !l.getD k true).length
theorem cnt_set {l : Array Bool} {j n : Nat} (hj : j < n) (h : l.getD j true = false) : cnt (l.setIfInBounds j true) n < cnt l n := by
  have h1 : ∀ m, ((List.range m).filter fun k => !(l.setIfInBounds j true).getD k true).length + (if j < m then 1 else 0) = ((List.range m).filter fun k => !l.getD k true).length := by
    intro m
    induction m with
    | zero => simp
    | succ m ih =>
      rw [List.range_succ, List.filter_append, List.filter_append, List.length_append, List.length_append]
      by_cases e : m = j
      · subst e
        rw [if_neg (by omega)] at ih
        rw [if_pos (by omega)]
        simp only [List.filter_cons, List.filter_nil, getD_set_eq, h, Bool.not_true, Bool.not_false, Bool.false_eq_true, if_false, if_true, List.length_cons, List.length_nil]
        omega
      · simp only [List.filter_cons, List.filter_nil, getD_set_other e]
        have : (if j < m + 1 then 1 else 0) = (if j < m then 1 else 0) := by
          by_cases q : j < m
          · rw [if_pos q, if_pos (by omega)]
          · rw [if_neg q, if_neg (by omega)]
        rw [this]
        omega
  have := h1 n
  rw [if_pos hj] at this
  unfold cnt
  omega
theorem cnt_zero {l : Array Bool} {n : Nat} (h : cnt l n = 0) {k : Nat} (hk : k < n) : l.getD k true = true := by
  unfold cnt at h
  have h2 := List.eq_nil_of_length_eq_zero h
  rw [List.filter_eq_nil_iff] at h2
  have := h2 k (List.mem_range.2 hk)
  simpa using this
section
variable {P : Program} {T : Tab} {C : Ctx} {w0 : World} {Fr : List Nat} {μ0 : Ren} {ops : List Oper} {N : Nat}
/-- What has come up, and what stands in the frame. -/
structure RS (C : Ctx) (w0 : World) (Fr : List Nat) (μ0 : Ren) (ops : List Oper) (N : Nat) (done pend : List Nat) (E : Tr Value) (H : PH) (listed : Array Bool) (a : Act) (w : World) : Prop where
  size : listed.size = ops.length
  up : ∀ k, k < ops.length → listed.getD k true = true → k ∈ done
  dn : ∀ k, k ∈ done → k ∉ pend → listed.getD k true = true
  cl : ∀ p ∈ pend, listed.getD p true = true → ∀ q ∈ afters ops p, listed.getD q true = true
  real : ∃ μ, Sim C w0 Fr μ0 μ H.abs w ∧ ERt μ N E (fun s => ∃ p ∈ pend, listed.getD p true = false ∧ dstOf ops p = some s) a
/-- What is known of the early ones. -/
structure PD (ops : List Oper) (done pend : List Nat) : Prop where
  sub : ∀ p ∈ pend, p ∈ done
  aft : ∀ p ∈ pend, ∀ q ∈ afters ops p, q ∈ done ∧ q < p
  look : ∀ p ∈ pend, ∀ q ∈ pend, ∀ t, dstOf ops q = some t → t ∈ looksOf ops p → q ∈ afters ops p
  inj : ∀ p ∈ pend, ∀ q ∈ pend, p ≠ q → ∀ t, dstOf ops q = some t → dstOf ops p ≠ some t
theorem ready_iff {listed : Array Bool} {j : Nat} : j ∈ Region.ready .any ops.toArray listed ↔ j < ops.length ∧ listed.getD j true = false ∧ ∀ q ∈ afters ops j, listed.getD q false = true := by
  rw [mem_ready]
  constructor
  · rintro ⟨h1, o, ho, h2⟩
    rw [List.getElem?_toArray] at ho
    refine ⟨(List.getElem?_eq_some_iff.1 ho).1, h1, fun q hq => ?_⟩
    unfold afters at hq
    rw [ho] at hq
    obtain ⟨e, he, rfl⟩ := List.mem_map.1 hq
    obtain ⟨he1, he2⟩ := List.mem_filter.1 he
    exact h2 e (Array.mem_toList_iff.1 he1) he2
  · rintro ⟨h1, h2, h3⟩
    refine ⟨h2, ops[j], ?_, fun e he hb => h3 e.on ?_⟩
    · rw [List.getElem?_toArray, List.getElem?_eq_getElem h1]
    · unfold afters
      rw [List.getElem?_eq_getElem h1]
      exact List.mem_map.2 ⟨e, List.mem_filter.2 ⟨Array.mem_toList_iff.2 he, hb⟩, rfl⟩
/-- One that was read early comes up. -/
theorem exec_pend (hT : T.ok P) {Q : Exit → Act → World → Prop} {done pend : List Nat} {E : Tr Value} {H : PH} {listed : Array Bool} {a : Act} {w : World} (hN : ∀ p ∈ pend, ∀ d, dstOf ops p = some d → d < N) (hpd : PD ops done pend) (he : ∀ p ∈ pend, Early T ops E H p) (hr : RS C w0 Fr μ0 ops N done pend E H listed a w)
    {j : Nat} (hj : j ∈ Region.ready .any ops.toArray listed) (hp : j ∈ pend) {K : Act → World → Prop} (hK : ∀ a' w', RS C w0 Fr μ0 ops N done pend E H (listed.setIfInBounds j true) a' w' → K a' w') : wpOp P ops.toArray Q j K a w := by
  obtain ⟨hjl, hju, hja⟩ := ready_iff.1 hj
  obtain ⟨o, d, v, ho, hd, hv, hgi⟩ := he j hp
  obtain ⟨μ, hs, her⟩ := hr.real
  have hlo : looksOf ops j = looks ops o := by unfold looksOf; rw [ho]
  have hdo : dstOf ops j = some d := by unfold dstOf; rw [ho]; exact hd
  have hsee : Sees (envR E (fun s => ∃ p ∈ pend, listed.getD p true = false ∧ dstOf ops p = some s) N) E (looks ops o) := by
    refine her.sees ?_
    rintro t ht ⟨p, hpp, hpu, hpd'⟩
    have := hpd.look j hp p hpp t hpd' (by rw [hlo]; exact ht)
    have h1 := getD_tf (hja p this)
    rw [hpu] at h1
    cases h1
  have fin : ∀ (a' : Act) (w' : World) (μ' : Ren) (rv : Value), a' = a.put o.dst rv → Sim C w0 Fr μ0 μ' H.abs w' → Ext' μ μ' → VR μ' v rv → K a' w' := by
    rintro a' w' μ' rv rfl hs' hx hrv
    refine hK _ _ ⟨by simpa using hr.size, fun k hk hl => ?_, fun k hd hnp => getD_set_up (hr.dn k hd hnp), fun p hpp hpl q hq => ?_, μ', hs', ?_⟩
    · by_cases e : k = j
      · subst e; exact hpd.sub k hp
      · rw [getD_set_other e] at hl
        exact hr.up k hk hl
    · by_cases e : p = j
      · subst e
        exact getD_set_up (getD_tf (hja q hq))
      · rw [getD_set_other e] at hpl
        exact getD_set_up (hr.cl p hpp hpl q hq)
    · rw [hd]
      have hdN := hN j hp d hdo
      refine ⟨by simp [Act.put, her.size], her.defers, fun s u hsu hx' => ?_⟩
      by_cases e : s = d
      · subst e
        rw [hv] at hsu
        injection hsu with hsu
        subst hsu
        refine ⟨rv, ?_, hrv⟩
        simp [Act.put, her.size, hdN]
      · obtain ⟨v', q1, q2⟩ := her.val s u hsu (by
          rintro ⟨p, hpp, hpu, hpd'⟩
          have hpj : p ≠ j := by
            rintro rfl
            rw [hdo] at hpd'
            injection hpd' with hpd'
            exact e hpd'.symm
          exact hx' ⟨p, hpp, by rw [getD_set_other hpj]; exact hpu, hpd'⟩)
        refine ⟨v', ?_, q2.mono hx⟩
        simp only [Act.put]
        rw [Array.getElem?_setIfInBounds_ne (Ne.symm e)]
        exact q1
  unfold wpOp
  rw [List.getElem?_toArray, ho]
  simp only
  rcases hgi with ⟨hg, hi⟩ | ⟨hg, rfl⟩
  · have hw := igd_real her.er hsee hg
    rw [hw, if_pos rfl]
    obtain ⟨Ts, hgr⟩ := ird_sound (H := H) hT hsee.left hi
    exact .inl (hgr.op (C := C) N w0 Fr μ0 μ a w K Q hs her.er fun u rv X w' μ' ⟨e1, e2⟩ hs' hx hrv => by
      subst e1 e2
      exact fin _ _ _ rv rfl hs' hx hrv)
  · have hw := igd_real her.er hsee hg
    rw [hw, if_neg (by simp)]
    exact fin _ _ μ undef rfl hs (Ext'.refl μ) (.tuple .nil)
/-- As long as one that was read early has not come up, one may. -/
theorem progress {done pend : List Nat} {E : Tr Value} {H : PH} {listed : Array Bool} {a : Act} {w : World} (hlt : ∀ p ∈ pend, p < ops.length) (hpd : PD ops done pend) (hr : RS C w0 Fr μ0 ops N done pend E H listed a w) (hnil : Region.ready .any ops.toArray listed = []) : ∀ (m p : Nat), p ≤ m → p ∈ pend → listed.getD p true = true := by
  intro m
  induction m using Nat.strongRecOn with
  | _ m ih =>
    intro p hpm hp
    cases hb : listed.getD p true with
    | true => rfl
    | false =>
      have : p ∈ Region.ready .any ops.toArray listed := ready_iff.2 ⟨hlt p hp, hb, fun q hq => by
        obtain ⟨h1, h2⟩ := hpd.aft p hp q hq
        have h3 : listed.getD q true = true := by
          by_cases e : q ∈ pend
          · exact ih q (by omega) q (Nat.le_refl _) e
          · exact hr.dn q h1 e
        exact getD_ft h3 (by rw [hr.size]; have := hlt p hp; omega)⟩
      rw [hnil] at this
      cases this
theorem subB_mem {l m : List Nat} (h : subB l m = true) : ∀ q ∈ l, q ∈ m := fun q hq => memN_iff.1 (by
  unfold subB at h
  rw [List.all_eq_true] at h
  exact h q hq)
theorem mem_subB {l m : List Nat} (h : ∀ q ∈ l, q ∈ m) : subB l m = true := by
  unfold subB
  rw [List.all_eq_true]
  exact fun q hq => memN_iff.2 (h q hq)
theorem keepC_sub : ∀ {ps S : List Nat} {p : Nat}, p ∈ keepC ops S ps → p ∈ ps
  | [], _, _, h => by simp [keepC] at h
  | q :: ps, S, p, h => by
    unfold keepC at h
    cases hb : memN q S with
    | true => rw [hb] at h; exact List.mem_cons_of_mem _ (keepC_sub h)
    | false =>
      rw [hb] at h
      rcases List.mem_cons.1 h with rfl | h
      · exact List.mem_cons_self ..
      · exact List.mem_cons_of_mem _ (keepC_sub h)
theorem keepC_done {listed : Array Bool} : ∀ {ps S : List Nat} {p : Nat}, (∀ q ∈ ps, listed.getD q true = true → ∀ r ∈ afters ops q, listed.getD r true = true) → (∀ q ∈ S, listed.getD q true = true) → p ∈ ps → p ∉ keepC ops S ps → listed.getD p true = true
  | [], _, _, _, _, h, _ => by cases h
  | q :: ps, S, p, hcl, hS, h, hn => by
    unfold keepC at hn
    cases hb : memN q S with
    | true =>
      rw [hb] at hn
      have hq := hS q (memN_iff.1 hb)
      rcases List.mem_cons.1 h with rfl | h
      · exact hq
      · refine keepC_done (fun r hr => hcl r (List.mem_cons_of_mem _ hr)) (fun r hr => ?_) h hn
        rcases List.mem_append.1 hr with hr | hr
        · exact hcl q (List.mem_cons_self ..) hq r hr
        · exact hS r hr
    | false =>
      rw [hb] at hn
      rcases List.mem_cons.1 h with rfl | h
      · exact absurd (List.mem_cons_self ..) hn
      · exact keepC_done (fun r hr => hcl r (List.mem_cons_of_mem _ hr)) hS h fun hk => hn (List.mem_cons_of_mem _ hk)
theorem iplan_mono {call : CallF} (hT : T.ok P) (hcall : CallOk P call) {E' : Tr Value} {H' : PH} : ∀ (plan : List PSeg) (E : Tr Value) (H : PH), iplan call T N ops plan E H = some (E', H') → Mono H H'
  | [], E, H, h => by
    simp only [iplan, Option.some.injEq, Prod.mk.injEq] at h
    obtain ⟨rfl, rfl⟩ := h
    exact .refl _
  | .rd i :: rest, E, H, h => by
    unfold iplan at h
    split at h
    · split at h
      · replace h := bsel_c h; rcases h with ⟨h1, h⟩ | ⟨h1, h⟩
        · split at h
          · obtain ⟨_, h⟩ := setE_t h
            exact iplan_mono hT hcall rest _ _ h
          · cases h
        · obtain ⟨_, h⟩ := setE_t h
          exact iplan_mono hT hcall rest _ _ h
      · cases h
    · cases h
  | .wr i chk :: rest, E, H, h => by
    unfold iplan at h
    split at h
    · split at h
      · replace h := bsel_c h; rcases h with ⟨h1, h⟩ | ⟨h1, h⟩
        · obtain ⟨v, H2, h, hm⟩ := iop_mono hT hcall h
          obtain ⟨_, h⟩ := setE_t h
          replace h := bsel_t h
          exact hm.trans (iplan_mono hT hcall rest _ _ h.2)
        · obtain ⟨_, h⟩ := setE_t h
          exact iplan_mono hT hcall rest _ _ h
      · cases h
    · cases h
/-- **Whatever the order is**, the walk by the plan tells what comes. -/
theorem plan_sound {call : CallF} (hT : T.ok P) (hcall : CallOk P call) (hN : N ≤ trMax) (hdst : ∀ i d, dstOf ops i = some d → d < N) {E' : Tr Value} {H' : PH} : ∀ (plan : List PSeg) (done pend : List Nat) (E : Tr Value) (H : PH), okPlan ops plan done pend = true → PD ops done pend → (∀ p ∈ done, p < ops.length) → (∀ p ∈ pend, Early T ops E H p) → iplan call T N ops plan E H = some (E', H') → CL C H →
    ∀ (m : Nat) (listed : Array Bool) (a : Act) (w : World), cnt listed ops.length ≤ m → RS C w0 Fr μ0 ops N done pend E H listed a w → wpAny P .any ops.toArray (IPost N C w0 Fr μ0 .normal E' H') m listed a w := by
  intro plan
  induction plan with
  | nil =>
    intro done pend E H hok hpd hdl hear hi hC m
    have hlt : ∀ p ∈ pend, p < ops.length := fun p hp => hdl p (hpd.sub p hp)
    simp only [iplan, Option.some.injEq, Prod.mk.injEq] at hi
    obtain ⟨rfl, rfl⟩ := hi
    unfold okPlan at hok
    rw [List.all_eq_true] at hok
    have hall : ∀ k, k < ops.length → k ∈ done := fun k hk => memN_iff.1 (hok k (List.mem_range.2 hk))
    have post : ∀ {listed : Array Bool} {a : Act} {w : World}, RS C w0 Fr μ0 ops N done pend E H listed a w → (∀ p ∈ pend, listed.getD p true = true) → IPost N C w0 Fr μ0 .normal E H .normal a w := by
      intro listed a w hr hex
      obtain ⟨μ, hs, her⟩ := hr.real
      refine ⟨rfl, μ, hs, her.size, her.defers, fun s v hv _ => her.val s v hv ?_⟩
      rintro ⟨p, hp, hpu, _⟩
      rw [hex p hp] at hpu
      cases hpu
    induction m with
    | zero =>
      intro listed a w hc hr
      have hz : ∀ k, k < ops.length → listed.getD k true = true := fun k hk => cnt_zero (Nat.le_zero.1 hc) hk
      refine ⟨?_, post hr fun p hp => hz p (hlt p hp)⟩
      apply List.eq_nil_iff_forall_not_mem.2
      intro j hj
      obtain ⟨h1, h2, _⟩ := ready_iff.1 hj
      rw [hz j h1] at h2
      cases h2
    | succ m ih =>
      intro listed a w hc hr
      refine ⟨fun hnil => post hr fun p hp => progress hlt hpd hr hnil p p (Nat.le_refl _) hp, fun j hj => ?_⟩
      obtain ⟨h1, h2, _⟩ := ready_iff.1 hj
      have hjp : j ∈ pend := by
        refine Classical.byContradiction fun hn => ?_
        rw [hr.dn j (hall j h1) hn] at h2
        cases h2
      exact exec_pend hT (fun p _ d hd => hdst p d hd) hpd hear hr hj hjp fun a' w' hr' => ih _ a' w' (by have := cnt_set h1 h2; omega) hr'
  | cons sg rest ihp =>
    cases sg with
    | rd i =>
      intro done pend E H hok hpd hdl hear hi hC m listed a w hc hr
      have hlt : ∀ p ∈ pend, p < ops.length := fun p hp => hdl p (hpd.sub p hp)
      unfold okPlan at hok
      replace hok := and_t hok; obtain ⟨hok, hrest⟩ := hok
      replace hok := and_t hok; obtain ⟨hok, hslot⟩ := hok
      replace hok := and_t hok; obtain ⟨hok, hdsome⟩ := hok
      replace hok := and_t hok; obtain ⟨hok, hback⟩ := hok
      replace hok := and_t hok; obtain ⟨hok, haf⟩ := hok
      replace hok := and_t hok; obtain ⟨hil, hnd⟩ := hok
      have hil : i < ops.length := by rw [← Nat.blt_eq]; exact hil
      have hnd : i ∉ done := fun h => by rw [memN_iff.2 h] at hnd; cases hnd
      have haf := subB_mem haf
      rw [List.all_eq_true] at hback
      unfold slotRd at hslot
      replace hslot := and_t hslot; obtain ⟨hsl1, hsl2⟩ := hslot
      rw [List.all_eq_true] at hsl1 hsl2
      obtain ⟨d, hd⟩ := Option.isSome_iff_exists.1 hdsome
      have hnp : i ∉ pend := fun h => hnd (hpd.sub i h)
      have ho : ops[i]? = some ops[i] := List.getElem?_eq_getElem hil
      have hod : ops[i].dst = some d := by
        unfold dstOf at hd
        rw [ho] at hd
        exact hd
      have hdN := hdst i d hd
      -- the slot is no other's
      have hfree : ∀ p ∈ pend, d ∉ looksOf ops p ∧ dstOf ops p ≠ some d := fun p hp => by
        have := hsl1 p hp
        rw [hd] at this
        simp only at this
        replace this := and_t this
        refine ⟨fun hm => ?_, fun he => ?_⟩
        · rw [memN_iff.2 hm] at this
          cases this.1
        · have h2 := this.2
          rw [he] at h2
          simp at h2
      have hlook : ∀ p ∈ i :: pend, ∀ t, dstOf ops p = some t → t ∈ looksOf ops i → p ∈ afters ops i := fun p hp t hpt hm => by
        have := hsl2 p hp
        rw [hpt] at this
        simp only at this
        rw [memN_iff.2 hm] at this
        exact memN_iff.1 (by simpa using this)
      have hpd' : PD ops (i :: done) (i :: pend) := by
        refine ⟨fun p hp => ?_, fun p hp q hq => ?_, fun p hp q hq t hqt hm => ?_, fun p hp q hq hne t hqt hpt => ?_⟩
        · rcases List.mem_cons.1 hp with rfl | hp
          · exact List.mem_cons_self ..
          · exact List.mem_cons_of_mem _ (hpd.sub p hp)
        · rcases List.mem_cons.1 hp with rfl | hp
          · have := hback q hq
            rw [Nat.blt_eq] at this
            exact ⟨List.mem_cons_of_mem _ (haf q hq), this⟩
          · obtain ⟨h1, h2⟩ := hpd.aft p hp q hq
            exact ⟨List.mem_cons_of_mem _ h1, h2⟩
        · rcases List.mem_cons.1 hp with rfl | hp'
          · exact hlook q hq t hqt hm
          · rcases List.mem_cons.1 hq with rfl | hq'
            · rw [hd] at hqt
              injection hqt with hqt
              subst hqt
              exact absurd hm (hfree p hp').1
            · exact hpd.look p hp' q hq' t hqt hm
        · rcases List.mem_cons.1 hp with rfl | hp'
          · rcases List.mem_cons.1 hq with rfl | hq'
            · exact hne rfl
            · rw [hd] at hpt
              injection hpt with hpt
              subst hpt
              exact (hfree q hq').2 hqt
          · rcases List.mem_cons.1 hq with rfl | hq'
            · rw [hd] at hqt
              injection hqt with hqt
              subst hqt
              exact (hfree p hp').2 hpt
            · exact hpd.inj p hp' q hq' hne t hqt hpt
      have hdl' : ∀ p ∈ i :: done, p < ops.length := fun p hp => by
        rcases List.mem_cons.1 hp with rfl | hp
        · exact hil
        · exact hdl p hp
      -- what is put
      have key : ∀ v, ((igd ops E ops[i] = some true ∧ ird T E H ops[i].op = some v) ∨ (igd ops E ops[i] = some false ∧ v = undef)) → dstOk N ops[i].dst = true → iplan call T N ops rest (putE E ops[i].dst v) H = some (E', H') → wpAny P .any ops.toArray (IPost N C w0 Fr μ0 .normal E' H') m listed a w := by
        intro v hv hdk hi
        rw [hod] at hdk hi
        have hget : ∀ s, (putE E (some d) v).get s = if s = d then some v else E.get s := fun s => putE_get hN hdk
        have hdi : d ∉ looksOf ops i := fun hm => by
          have := haf i (hlook i (List.mem_cons_self ..) d hd hm)
          exact hnd this
        have hear' : ∀ p ∈ i :: pend, Early T ops (putE E (some d) v) H p := fun p hp => by
          rcases List.mem_cons.1 hp with rfl | hp
          · have h0 : Early T ops (putE E (some d) v) H p := by
              have e1 : ∀ t ∈ looks ops ops[p], (putE E (some d) v).get t = E.get t := fun t ht => by
                rw [hget, if_neg]
                rintro rfl
                exact hdi (by unfold looksOf; rw [ho]; exact ht)
              have hg : igd ops (putE E (some d) v) ops[p] = igd ops E ops[p] := igd_same fun s hs => e1 s (by unfold looks; rw [hs]; simp)
              have hi2 : ird T (putE E (some d) v) H ops[p].op = ird T E H ops[p].op := ird_same fun x hx => opd_same fun t ht => e1 t (by unfold looks; exact List.mem_append_left _ (List.mem_flatMap.2 ⟨x, hx, ht⟩))
              exact ⟨ops[p], d, v, ho, hod, by rw [hget, if_pos rfl], by rw [hg, hi2]; exact hv⟩
            exact h0
          · refine (hear p hp).same (fun t ht => ?_) (fun e he => ?_)
            · rw [hget, if_neg]
              rintro rfl
              exact (hfree p hp).1 ht
            · rw [hget, if_neg]
              rintro rfl
              exact (hfree p hp).2 he
        refine ihp (i :: done) (i :: pend) _ H hrest hpd' hdl' hear' hi hC m listed a w hc ?_
        have hiu : listed.getD i true = false := by
          cases hb : listed.getD i true with
          | false => rfl
          | true => exact absurd (hr.up i hil hb) hnd
        refine ⟨hr.size, fun k hk hl => List.mem_cons_of_mem _ (hr.up k hk hl), fun k hkd hkp => ?_, fun p hp hl q hq => ?_, ?_⟩
        · rcases List.mem_cons.1 hkd with rfl | hkd
          · exact absurd (List.mem_cons_self ..) hkp
          · exact hr.dn k hkd fun h => hkp (List.mem_cons_of_mem _ h)
        · rcases List.mem_cons.1 hp with rfl | hp
          · rw [hiu] at hl; cases hl
          · exact hr.cl p hp hl q hq
        · obtain ⟨μ, hs, her⟩ := hr.real
          refine ⟨μ, hs, her.size, her.defers, fun s u hsu hx => ?_⟩
          have hsd : s ≠ d := by
            rintro rfl
            exact hx ⟨i, List.mem_cons_self .., hiu, hd⟩
          rw [hget, if_neg hsd] at hsu
          exact her.val s u hsu fun ⟨p, hp, hpu, hpd2⟩ => hx ⟨p, List.mem_cons_of_mem _ hp, hpu, hpd2⟩
      unfold iplan at hi
      rw [ho] at hi
      simp only at hi
      split at hi
      · rename_i b hb
        replace hi := bsel_c hi; rcases hi with ⟨hb1, hi⟩ | ⟨hb1, hi⟩
        · subst hb1
          split at hi
          · rename_i v hv
            obtain ⟨h1, h2⟩ := setE_t hi
            exact key v (.inl ⟨hb, hv⟩) h1 h2
          · cases hi
        · subst hb1
          obtain ⟨h1, h2⟩ := setE_t hi
          exact key undef (.inr ⟨hb, rfl⟩) h1 h2
      · cases hi
    | wr i chk =>
      intro done pend E H hok hpd hdl hear hi hC m
      have hlt : ∀ p ∈ pend, p < ops.length := fun p hp => hdl p (hpd.sub p hp)
      unfold okPlan at hok
      replace hok := and_t hok; obtain ⟨hok, hrest⟩ := hok
      replace hok := and_t hok; obtain ⟨hok, hchk⟩ := hok
      replace hok := and_t hok; obtain ⟨hok, hslot⟩ := hok
      replace hok := and_t hok; obtain ⟨hok, huniq⟩ := hok
      replace hok := and_t hok; obtain ⟨hok, haf⟩ := hok
      replace hok := and_t hok; obtain ⟨hil, hnd⟩ := hok
      have hil : i < ops.length := by rw [← Nat.blt_eq]; exact hil
      have hnd : i ∉ done := fun h => by rw [memN_iff.2 h] at hnd; cases hnd
      have haf := subB_mem haf
      rw [List.all_eq_true] at huniq hchk
      unfold slotWr at hslot
      replace hslot := and_t hslot; obtain ⟨hsl1, hsl2⟩ := hslot
      rw [List.all_eq_true] at hsl1 hsl2
      have hnp : i ∉ pend := fun h => hnd (hpd.sub i h)
      have ho : ops[i]? = some ops[i] := List.getElem?_eq_getElem hil
      have hod : dstOf ops i = ops[i].dst := by unfold dstOf; rw [ho]
      have hlk : looksOf ops i = looks ops ops[i] := by unfold looksOf; rw [ho]
      have hksub : ∀ p ∈ keepC ops (afters ops i) pend, p ∈ pend := fun p hp => keepC_sub hp
      have hfree : ∀ p ∈ keepC ops (afters ops i) pend, ∀ d, ops[i].dst = some d → d ∉ looksOf ops p ∧ dstOf ops p ≠ some d := fun p hp d hd => by
        have := hsl1 p hp
        rw [hod, hd] at this
        simp only at this
        replace this := and_t this
        refine ⟨fun hm => ?_, fun he => ?_⟩
        · rw [memN_iff.2 hm] at this
          cases this.1
        · have h2 := this.2
          rw [he] at h2
          simp at h2
      have hlook : ∀ p ∈ pend, ∀ t, dstOf ops p = some t → t ∈ looks ops ops[i] → p ∈ afters ops i := fun p hp t hpt hm => by
        have := hsl2 p hp
        rw [hpt] at this
        simp only at this
        rw [hlk, memN_iff.2 hm] at this
        exact memN_iff.1 (by simpa using this)
      have hpd' : PD ops (i :: done) (keepC ops (afters ops i) pend) :=
        ⟨fun p hp => List.mem_cons_of_mem _ (hpd.sub p (hksub p hp)), fun p hp q hq => ⟨List.mem_cons_of_mem _ (hpd.aft p (hksub p hp) q hq).1, (hpd.aft p (hksub p hp) q hq).2⟩,
          fun p hp q hq t hqt hm => hpd.look p (hksub p hp) q (hksub q hq) t hqt hm, fun p hp q hq hne t hqt hpt => hpd.inj p (hksub p hp) q (hksub q hq) hne t hqt hpt⟩
      induction m with
      | zero =>
        intro listed a w hc hr
        exact absurd (hr.up i hil (cnt_zero (Nat.le_zero.1 hc) hil)) hnd
      | succ m ih =>
        intro listed a w hc hr
        have hiu : listed.getD i true = false := by
          cases hb : listed.getD i true with
          | false => rfl
          | true => exact absurd (hr.up i hil hb) hnd
        refine ⟨fun hnil => ?_, fun j hj => ?_⟩
        · exfalso
          have : i ∈ Region.ready .any ops.toArray listed := ready_iff.2 ⟨hil, hiu, fun q hq => by
            have h3 : listed.getD q true = true := by
              by_cases e : q ∈ pend
              · exact progress hlt hpd hr hnil q q (Nat.le_refl _) e
              · exact hr.dn q (haf q hq) e
            exact getD_ft h3 (by rw [hr.size]; exact hdl q (haf q hq))⟩
          rw [hnil] at this
          cases this
        · obtain ⟨h1, h2, h3⟩ := ready_iff.1 hj
          by_cases hjd : j ∈ done
          · have hjp : j ∈ pend := Classical.byContradiction fun hn => by
              rw [hr.dn j hjd hn] at h2
              cases h2
            exact exec_pend hT (fun p _ d hd => hdst p d hd) hpd hear hr hj hjp fun a' w' hr' => ih _ a' w' (by have := cnt_set h1 h2; omega) hr'
          · have hji : j = i := by
              have := huniq j (List.mem_range.2 h1)
              have e1 : memN j done = false := by
                cases hb : memN j done with
                | false => rfl
                | true => exact absurd (memN_iff.1 hb) hjd
              have e2 : subB (afters ops j) done = true := mem_subB fun q hq => by
                have := h3 q hq
                have hql : q < ops.length := by
                  rw [← hr.size]
                  rcases Nat.lt_or_ge q listed.size with h | h
                  · exact h
                  · simp [Array.getD, Nat.not_lt.2 h] at this
                exact hr.up q hql (getD_tf this)
              rw [e1, e2] at this
              simpa using this
            subst hji
            -- the writer
            obtain ⟨μ, hs, her⟩ := hr.real
            have hsee : Sees (envR E (fun s => ∃ p ∈ pend, listed.getD p true = false ∧ dstOf ops p = some s) N) E (looks ops ops[j]) := by
              refine her.sees ?_
              rintro t ht ⟨p, hpp, hpu, hpd2⟩
              have := getD_tf (h3 p (hlook p hpp t hpd2 ht))
              rw [hpu] at this
              cases this
            have hdrop : ∀ p ∈ pend, p ∉ keepC ops (afters ops j) pend → listed.getD p true = true := fun p hp hn => keepC_done hr.cl (fun q hq => getD_tf (h3 q hq)) hp hn
            have fin : ∀ (v rv : Value) (H2 : PH) (w' : World) (μ' : Ren), dstOk N ops[j].dst = true → Sim C w0 Fr μ0 μ' H2.abs w' → Ext' μ μ' → VR μ' v rv → (∀ p ∈ keepC ops (afters ops j) pend, Early T ops (putE E ops[j].dst v) H2 p) → iplan call T N ops rest (putE E ops[j].dst v) H2 = some (E', H') → CL C H2 →
                wpAny P .any ops.toArray (IPost N C w0 Fr μ0 .normal E' H') m (listed.setIfInBounds j true) (a.put ops[j].dst rv) w' := by
              intro v rv H2 w' μ' hdk hs' hx hrv hear' hi2 hC2
              refine ihp (j :: done) (keepC ops (afters ops j) pend) _ H2 hrest hpd' (fun p hp => by rcases List.mem_cons.1 hp with rfl | hp; exact hil; exact hdl p hp) hear' hi2 hC2 m _ _ _ (by have := cnt_set h1 h2; omega) ?_
              refine ⟨by simpa using hr.size, fun k hk hl => ?_, fun k hkd hkp => ?_, fun p hp hl q hq => ?_, μ', hs', ?_⟩
              · by_cases e : k = j
                · subst e; exact List.mem_cons_self ..
                · rw [getD_set_other e] at hl
                  exact List.mem_cons_of_mem _ (hr.up k hk hl)
              · rcases List.mem_cons.1 hkd with rfl | hkd
                · exact getD_set_eq
                · refine getD_set_up ?_
                  by_cases e : k ∈ pend
                  · exact hdrop k e hkp
                  · exact hr.dn k hkd e
              · have hpj : p ≠ j := fun e => hnp (e ▸ hksub p hp)
                rw [getD_set_other hpj] at hl
                exact getD_set_up (hr.cl p (hksub p hp) hl q hq)
              · cases hd : ops[j].dst with
                | none =>
                  refine ⟨her.size, her.defers, fun s u hsu hx' => ?_⟩
                  obtain ⟨v', q1, q2⟩ := her.val s u hsu (by
                    rintro ⟨p, hpp, hpu, hpd2⟩
                    have hpk : p ∈ keepC ops (afters ops j) pend := Classical.byContradiction fun hn => by
                      rw [hdrop p hpp hn] at hpu
                      cases hpu
                    have hpj : p ≠ j := fun e => hnp (e ▸ hpp)
                    exact hx' ⟨p, hpk, by rw [getD_set_other hpj]; exact hpu, hpd2⟩)
                  exact ⟨v', q1, q2.mono hx⟩
                | some d =>
                  rw [hd] at hdk
                  have hdN : d < N := by
                    have : Nat.blt d N = true := hdk
                    rwa [Nat.blt_eq] at this
                  refine ⟨by simp [Act.put, her.size], her.defers, fun s u hsu hx' => ?_⟩
                  rw [putE_get hN hdk] at hsu
                  by_cases e : s = d
                  · subst e
                    rw [if_pos rfl] at hsu
                    injection hsu with hsu
                    subst hsu
                    refine ⟨rv, ?_, hrv⟩
                    simp [Act.put, her.size, hdN]
                  · rw [if_neg e] at hsu
                    obtain ⟨v', q1, q2⟩ := her.val s u hsu (by
                      rintro ⟨p, hpp, hpu, hpd2⟩
                      have hpk : p ∈ keepC ops (afters ops j) pend := Classical.byContradiction fun hn => by
                        rw [hdrop p hpp hn] at hpu
                        cases hpu
                      have hpj : p ≠ j := fun e => hnp (e ▸ hpp)
                      exact hx' ⟨p, hpk, by rw [getD_set_other hpj]; exact hpu, hpd2⟩)
                    refine ⟨v', ?_, q2.mono hx⟩
                    simp only [Act.put]
                    rw [Array.getElem?_setIfInBounds_ne (Ne.symm e)]
                    exact q1
            -- what was read early, behind it
            have early : ∀ (v : Value), dstOk N ops[j].dst = true → ∀ p ∈ keepC ops (afters ops j) pend, Early T ops (putE E ops[j].dst v) H p := fun v hdk p hp => by
              refine (hear p (hksub p hp)).same (fun t ht => ?_) (fun e he => ?_)
              · cases hd : ops[j].dst with
                | none => rfl
                | some d =>
                  rw [hd] at hdk
                  rw [putE_get hN hdk, if_neg]
                  rintro rfl
                  exact (hfree p hp _ hd).1 ht
              · cases hd : ops[j].dst with
                | none => rfl
                | some d =>
                  rw [hd] at hdk
                  rw [putE_get hN hdk, if_neg]
                  rintro rfl
                  exact (hfree p hp _ hd).2 he
            unfold iplan at hi
            rw [ho] at hi
            simp only at hi
            unfold wpOp
            rw [List.getElem?_toArray, ho]
            simp only
            split at hi
            · rename_i b hb
              have hw := igd_real her.er hsee hb
              rw [hw]
              replace hi := bsel_c hi; rcases hi with ⟨hb1, hi⟩ | ⟨hb1, hi⟩
              · subst hb1
                rw [if_pos rfl]
                obtain ⟨v, H2, hg, hi, hmn⟩ := iop_sound (C := C) hT hcall hC hsee.left hi
                obtain ⟨hdk, hi⟩ := setE_t hi
                replace hi := bsel_t hi; obtain ⟨hag, hi⟩ := hi
                rw [List.all_eq_true] at hag
                refine .inl (hg N w0 Fr μ0 μ a w _ _ hs her.er fun u rv X w' μ' ⟨e1, e2⟩ hs' hx hrv => ?_)
                subst e1 e2
                refine fin _ rv H2 w' μ' hdk hs' hx hrv (fun p hp => ?_) hi (hC.mono hmn)
                obtain ⟨o, d, v, q1, q2, q3, q4⟩ := early u hdk p hp
                refine ⟨o, d, v, q1, q2, q3, ?_⟩
                rcases q4 with ⟨q4, q5⟩ | q4
                · have := hchk p hp
                  rcases Bool.or_eq_true _ _ ▸ this with hc1 | hc1
                  · have hag := hag p (memN_iff.1 hc1)
                    unfold again at hag
                    rw [q1] at hag
                    simp only at hag
                    rw [q2] at hag
                    simp only at hag
                    rw [q3, q4] at hag
                    simp only at hag
                    split at hag
                    · rename_i v' hv'
                      have := veq_eq hag
                      subst this
                      exact .inl ⟨q4, hv'⟩
                    · cases hag
                  · unfold pureAt at hc1
                    rw [q1] at hc1
                    exact .inl ⟨q4, by rw [← q5]; exact pure_ird hc1⟩
                · exact .inr q4
              · subst hb1
                rw [if_neg (by simp)]
                obtain ⟨hdk, hi⟩ := setE_t hi
                exact fin _ undef H w μ hdk hs (Ext'.refl μ) (.tuple .nil) (early undef hdk) hi hC
            · cases hi
end
end Go.Proofs.YtifmhhiabopgmaaDoor
