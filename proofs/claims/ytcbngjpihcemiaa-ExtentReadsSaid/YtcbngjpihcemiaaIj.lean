/- The quick heap: code, and functions. -/
import Derived.Test.YtcbngjpihcemiaaIi
namespace Go.Proofs.Ytcbngjpihcemiaa
open Go.RowKit

/-- A function, as it is run. -/
structure FE where
  code : Code
  res : List ResultVar
  N : Nat
  dr : Tr (List PSeg)
noncomputable def argsE {β : Type} : List Value → Nat → Tr Value → (Tr Value → Option β) → Option β
  | [], _, E, K => K E
  | v :: vs, k, E, K => fW v fun v => Tr.setK 64 E k (some v) fun E => fN (Nat.succ k) fun k => argsE vs k E K
def putsE : List Value → Nat → Tr Value → Tr Value
  | [], _, E => E
  | v :: vs, k, E => putsE vs (k + 1) (Tr.put 64 E k (some v))
theorem argsE_eq {β : Type} : ∀ (vs : List Value) (k : Nat) (E : Tr Value) (K : Tr Value → Option β), argsE vs k E K = K (putsE vs k E)
  | [], _, _, _ => rfl
  | v :: vs, k, E, K => by rw [argsE, fW_eq, Tr.setK_eq, fN_eq, argsE_eq vs]; rfl
theorem putsE_get : ∀ (vs : List Value) (k : Nat) (E : Tr Value) (s : Nat), k + vs.length ≤ trMax → (putsE vs k E).get s = if k ≤ s ∧ s < k + vs.length then vs[s - k]? else E.get s
  | [], k, E, s, h => by
    rw [putsE, if_neg]
    simp only [List.length_nil]
    omega
  | v :: vs, k, E, s, h => by
    simp only [List.length_cons] at h ⊢
    rw [putsE, putsE_get vs (k + 1) _ s (by omega), Tr.get_set (by omega)]
    by_cases e : s = k
    · subst e
      rw [if_neg (by omega), if_pos rfl, if_pos (by omega), Nat.sub_self]
      rfl
    · rw [if_neg e]
      by_cases e1 : k + 1 ≤ s ∧ s < k + 1 + vs.length
      · rw [if_pos e1, if_pos (by omega), show s - k = (s - (k + 1)) + 1 by omega]
        rfl
      · rw [if_neg e1, if_neg (by omega)]
noncomputable def iresL (T : Tab) (E : Tr Value) (H : PH) : List ResultVar → Option (List Value)
  | [] => some []
  | x :: l => match (match x with
      | .tmp t => E.get t
      | .cell s t => match E.get s with
        | some p => iload T H t p
        | none => none) with
    | some v => match iresL T E H l with
      | some vs => some (v :: vs)
      | none => none
    | none => none
noncomputable def resV (l : List Value) : Value := match l with
  | [v] => v
  | l => .tuple l.toArray
noncomputable def icallF (FT : Tr FE) (S : CallF) (T : Tab) (rn : Nat → Tr (List PSeg) → Code → Tr Value → PH → Option (Exit × Tr Value × PH)) : CallF := fun f args H => match S f args H with
  | some r => some r
  | none => match FT.get f with
    | some fe => bsel (Nat.ble args.length fe.N) (argsE args (nat_lit 0) .e fun E => match rn fe.N fe.dr fe.code E H with
      | some (e, E', H') => match e with
        | .normal => match iresL T E' H' fe.res with
          | some vs => some (resV vs, H')
          | none => none
        | .ret => match iresL T E' H' fe.res with
          | some vs => some (resV vs, H')
          | none => none
        | _ => none
      | none => none) none
    | none => none
/-- The walk of code. -/
noncomputable def run (FT : Tr FE) (S : CallF) (T : Tab) (n : Nat) : Nat → Tr (List PSeg) → Code → Tr Value → PH → Option (Exit × Tr Value × PH) :=
  Nat.rec (fun _ _ _ _ _ => none) (fun _ ih N dr c E H => match c with
    | .skip => some (.normal, E, H)
    | .label _ => some (.normal, E, H)
    | .ret => some (.ret, E, H)
    | .exit id => some (.exit id, E, H)
    | .region id ops draw => bsel draw
      (match dr.get id with
        | some plan => match iplan (icallF FT S T ih) T N ops.toList plan [] E H with
          | some (E', H') => some (.normal, E', H')
          | none => none
        | none => none)
      (match iops (icallF FT S T ih) T N ops.toList ops.toList E H with
        | some (E', H') => some (.normal, E', H')
        | none => none)
    | .seq a b => match ih N dr a E H with
      | some (e, E', H') => match e with
        | .normal => ih N dr b E' H'
        | e => some (e, E', H')
      | none => none
    | .cond x a b => match opd E x with
      | some (.bool q) => bsel q (ih N dr a E H) (ih N dr b E H)
      | _ => none
    | .block id b => match ih N dr b E H with
      | some (e, E', H') => match e with
        | .exit k => bsel (Nat.beq k id) (some (.normal, E', H')) (some (.exit k, E', H'))
        | e => some (e, E', H')
      | none => none
    | .loop b => match ih N dr b E H with
      | some (e, E', H') => match e with
        | .normal => ih N dr (.loop b) E' H'
        | e => some (e, E', H')
      | none => none
    | _ => none) n
/-- A function's text is such that it can be run. -/
noncomputable def codeOk (N : Nat) (dr : Tr (List PSeg)) : Code → Bool
  | .region id ops draw => bsel draw (match dr.get id with
      | some plan => okPlan ops.toList plan [] [] [] && ops.toList.all (fun o => match o.dst with | some d => Nat.blt d N | none => true)
      | none => true) true
  | .seq a b => codeOk N dr a && codeOk N dr b
  | .cond _ a b => codeOk N dr a && codeOk N dr b
  | .block _ b => codeOk N dr b
  | .loop b => codeOk N dr b
  | _ => true
/-- A table of functions is the program's. -/
def FTOk (P : Program) (FT : Tr FE) : Prop := ∀ f fe, FT.get f = some fe → fe.N ≤ trMax ∧ codeOk fe.N fe.dr fe.code = true ∧ (∀ (ars : Array Value) (w : World), (callFunc f ars).run P w = .ok (.enter f ars) w) ∧ ∃ fn, P.funcs[f]? = some fn ∧ fn.body = some fe.code ∧ fn.results = fe.res.toArray ∧ fn.ntmps = fe.N
section
variable {P : Program} {T : Tab} {FT : Tr FE} {S : CallF}
theorem run_resL (hT : T.ok P) {N : Nat} {μ : Ren} {a : Act} {w : World} {E : Tr Value} {H : PH} (he : ERt μ N E (fun _ => False) a) (hs : SimH μ H.abs w) : ∀ {l : List ResultVar} {vs : List Value}, iresL T E H l = some vs → ∃ rvs : List Value, VRs μ vs rvs ∧ (l.mapM (resOf a.tmps)).run P w = .ok rvs w
  | [], vs, h => by
    simp only [iresL, Option.some.injEq] at h
    subst h
    exact ⟨[], .nil, by simp⟩
  | x :: l, vs, h => by
    unfold iresL at h
    have hg : ∀ v, (match x with
      | .tmp t => E.get t
      | .cell s t => match E.get s with
        | some p => iload T H t p
        | none => none) = some v → GRes (envR E (fun _ => False) N) H.abs T [x] v := fun v hv => by
      cases x with
      | tmp t => exact .one (envR_get (he.lt hv id) id hv)
      | cell s t =>
        simp only at hv
        split at hv
        · rename_i p hp
          have hp := envR_get (X := fun _ => False) (he.lt hp id) id hp
          unfold iload at hv
          split at hv
          · split at hv
            · rename_i b hb
              split at hv
              · rename_i i ht
                replace hv := bsel_c hv; rcases hv with ⟨h1, hv⟩ | ⟨h1, hv⟩
                · replace hv := bsel_t hv; obtain ⟨h2, hv⟩ := hv
                  injection hv with hv; subst hv
                  replace h2 := ble_le h2
                  rw [FB.run_eq _ _ _ h2]
                  exact .cellN hp ht h1 (PH.abs_at hb) (by simpa [FB.abs] using h2)
                · replace hv := bsel_t hv; obtain ⟨h2, hv⟩ := hv
                  injection hv with hv; subst hv
                  replace h2 := ble_le h2
                  exact .cell1 hp ht h1 (PH.abs_at hb) (by simpa [FB.abs] using b.cells_get h2)
              · cases hv
            · cases hv
          · cases hv
        · cases hv
    split at h
    · rename_i v hv
      split at h
      · rename_i vs' hvs
        injection h with h; subst h
        obtain ⟨rv, h1, h2⟩ := run_res1 hT he.er hs (hg v hv)
        obtain ⟨rvs, h3, h4⟩ := run_resL hT he hs hvs
        exact ⟨rv :: rvs, .cons h1 h3, by simp [h2, h4]⟩
      · cases h
    · cases h
theorem run_resV (hT : T.ok P) {N : Nat} {μ : Ren} {a : Act} {w : World} {E : Tr Value} {H : PH} (he : ERt μ N E (fun _ => False) a) (hs : SimH μ H.abs w) {fn : Func} {l : List ResultVar} (hl : fn.results = l.toArray) {vs : List Value} (h : iresL T E H l = some vs) : ∃ rv, VR μ (resV vs) rv ∧ (results fn a.tmps).run P w = .ok rv w := by
  obtain ⟨rvs, h1, h2⟩ := run_resL hT he hs h
  have hlen := h1.length
  rw [results_is, hl]
  match vs, rvs, h1, hlen with
  | [v], [rv], .cons hv _, _ => exact ⟨rv, hv, by simp [h2]⟩
  | [], [], h1, _ => exact ⟨.tuple #[], .tuple .nil, by simp [h2]⟩
  | v :: v2 :: l2, r :: r2 :: m2, h1, _ => exact ⟨.tuple (r :: r2 :: m2).toArray, .tuple (by simpa using h1), by simp [h2]⟩
theorem mayAll (H : PH) : CL ⟨live H, H.n⟩ H := ⟨Nat.le_refl _, fun _ _ hb => .inl (mem_live hb)⟩
/-- A run of a function's code is a call of it. -/
theorem calls_run (hT : T.ok P) {f : FuncId} {fn : Func} {c : Code} {args : List Value} {H H' : PH} {e : Exit} {E' : Tr Value} {l : List ResultVar} {vs : List Value} (hf : P.funcs[f]? = some fn) (hb : fn.body = some c) (hl : fn.results = l.toArray) {N : Nat} (hN : fn.ntmps = N) (hNm : N ≤ trMax) (hna : args.length ≤ N)
    (h : ∀ w0 Fr μ0 μ a w, Sim ⟨live H, H.n⟩ w0 Fr μ0 μ H.abs w → ERt μ N (putsE args 0 .e) (fun _ => False) a → c.wp P (IPost N ⟨live H, H.n⟩ w0 Fr μ0 e E' H') a w) (he : e = .normal ∨ e = .ret) (hr : iresL T E' H' l = some vs) : GCalls P f args (live H) H.abs (fun u X => u = resV vs ∧ X = H'.abs) := fun μ w rargs hs hv => by
  have hlen : rargs.size = args.length := by simpa using hv.length.symm
  have hsim : Sim ⟨live H, H.n⟩ w (img μ (live H)) μ μ H.abs w := by
    refine ⟨hs, Ext'.refl μ, Frm.refl _ _, fun i hi => ⟨live_lt hi, fun L hL => mem_img hi hL⟩, fun i L hi hL => ?_, by simp, fun _ _ _ h => h⟩
    have := (hs.len i L hL).1
    rw [PH.abs_len] at this
    simp only at hi
    omega
  have hER : ERt μ N (putsE args 0 .e) (fun _ => False) ⟨rargs ++ Array.replicate (fn.ntmps - rargs.size) undef, []⟩ := by
    refine ⟨by simp; omega, rfl, fun s v hs' _ => ?_⟩
    rw [putsE_get _ _ _ _ (by omega)] at hs'
    by_cases hlt : 0 ≤ s ∧ s < 0 + args.length
    · rw [if_pos hlt, Nat.sub_zero] at hs'
      obtain ⟨v', h3, h4⟩ := hv.get _ v hs'
      refine ⟨v', ?_, h4⟩
      rw [Array.getElem?_append_left (by omega)]
      simpa using h3
    · rw [if_neg hlt] at hs'
      cases hs'
  refine calls_of_wp hf hb (wp_mono (h w (img μ (live H)) μ μ _ w hsim hER) ?_)
  rintro e2 a' w' ⟨rfl, μ', q1, q2⟩
  obtain ⟨rv, h3, h4⟩ := run_resV hT q2 q1.h hl hr
  have fin : a'.defers = [] ∧ ∃ v, (results fn a'.tmps).run P w' = .ok v w' ∧ ∃ v2 rv H'2 μ', (Ending.returned v) = .returned rv ∧ (v2 = resV vs ∧ H'2 = H'.abs) ∧ VR μ' v2 rv ∧ SimH μ' H'2 w' ∧ Ext' μ μ' ∧ Frm w w' (img μ (live H)) ∧ (∀ i L, H.abs.length ≤ i → μ' i = some L → L.g ∈ img μ (live H) ∨ w.heap.size ≤ L.g) ∧ H.abs.length ≤ H'2.length ∧ ∀ i L, i < H.abs.length → μ' i = some L → μ i = some L :=
    ⟨q2.defers, rv, h4, resV vs, rv, H'.abs, μ', rfl, ⟨rfl, rfl⟩, h3, q1.h, q1.ext, q1.frm, fun i L hi hL => q1.new i L (by rw [PH.abs_len] at hi; exact hi) hL, by rw [PH.abs_len]; exact q1.len, fun i L hi hL => q1.back i L (by rw [PH.abs_len] at hi; exact hi) hL⟩
  rcases he with rfl | rfl
  · exact fin
  · exact fin
theorem run_sound (hT : T.ok P) (hm : P.follows .mixedOrders = true) (hF : FTOk P FT) (hS : CallOk P S) : ∀ (n N : Nat) (dr : Tr (List PSeg)) (c : Code) (E : Tr Value) (H : PH) (e : Exit) (E' : Tr Value) (H' : PH), run FT S T n N dr c E H = some (e, E', H') → codeOk N dr c = true → N ≤ trMax →
    Mono H H' ∧ ∀ (C : Ctx), CL C H → ∀ w0 Fr μ0 μ a w, Sim C w0 Fr μ0 μ H.abs w → ERt μ N E (fun _ => False) a → c.wp P (IPost N C w0 Fr μ0 e E' H') a w := by
  intro n
  induction n using Nat.strongRecOn with
  | _ n ihs =>
  cases n with
  | zero => intro N dr c E H e E' H' h; cases h
  | succ n =>
    have ih := ihs n (Nat.lt_succ_self n)
    -- calls
    have hcall : CallOk P (icallF FT S T (run FT S T n)) := by
      intro f args H v H' h
      unfold icallF at h
      split at h
      · rename_i r hr
        injection h with h
        subst h
        exact hS f args H v H' hr
      · split at h
        · rename_i fe hfe
          obtain ⟨g1, g2, g3, fn, g4, g5, g6, g7⟩ := hF f fe hfe
          replace h := bsel_t h; obtain ⟨h1, h⟩ := h
          rw [argsE_eq] at h
          refine ⟨g3, ?_⟩
          split at h
          · rename_i e E' H2 hr
            obtain ⟨hmn, hw0⟩ := ih fe.N fe.dr fe.code _ H e E' H2 hr g2 g1
            have hw := fun w0 Fr μ0 μ a w hs he => hw0 ⟨live H, H.n⟩ (mayAll H) w0 Fr μ0 μ a w hs he
            split at h
            · split at h
              · rename_i vs hvs
                injection h with h
                injection h with e1 e2
                subst e1 e2
                exact ⟨calls_run hT g4 g5 g6 g7 g1 (ble_le h1) hw (.inl rfl) hvs, hmn⟩
              · cases h
            · split at h
              · rename_i vs hvs
                injection h with h
                injection h with e1 e2
                subst e1 e2
                exact ⟨calls_run hT g4 g5 g6 g7 g1 (ble_le h1) hw (.inr rfl) hvs, hmn⟩
              · cases h
            · cases h
          · cases h
        · cases h
    intro N dr c E H e E' H' h hok hN
    cases c with
    | skip =>
      change (some (.normal, E, H) : Option (Exit × Tr Value × PH)) = some (e, E', H') at h
      simp only [Option.some.injEq, Prod.mk.injEq] at h
      obtain ⟨rfl, rfl, rfl⟩ := h
      exact ⟨.refl _, fun C hC w0 Fr μ0 μ a w hs he => wp_skip ⟨rfl, μ, hs, he⟩⟩
    | label l =>
      change (some (.normal, E, H) : Option (Exit × Tr Value × PH)) = some (e, E', H') at h
      simp only [Option.some.injEq, Prod.mk.injEq] at h
      obtain ⟨rfl, rfl, rfl⟩ := h
      exact ⟨.refl _, fun C hC w0 Fr μ0 μ a w hs he => wp_label ⟨rfl, μ, hs, he⟩⟩
    | ret =>
      change (some (.ret, E, H) : Option (Exit × Tr Value × PH)) = some (e, E', H') at h
      simp only [Option.some.injEq, Prod.mk.injEq] at h
      obtain ⟨rfl, rfl, rfl⟩ := h
      exact ⟨.refl _, fun C hC w0 Fr μ0 μ a w hs he => wp_ret ⟨rfl, μ, hs, he⟩⟩
    | exit id =>
      change (some (.exit id, E, H) : Option (Exit × Tr Value × PH)) = some (e, E', H') at h
      simp only [Option.some.injEq, Prod.mk.injEq] at h
      obtain ⟨rfl, rfl, rfl⟩ := h
      exact ⟨.refl _, fun C hC w0 Fr μ0 μ a w hs he => wp_exit ⟨rfl, μ, hs, he⟩⟩
    | region id ops draw =>
      change (bsel draw
        (match dr.get id with
          | some plan => match iplan (icallF FT S T (run FT S T n)) T N ops.toList plan [] E H with
            | some (E', H') => some (.normal, E', H')
            | none => none
          | none => none)
        (match iops (icallF FT S T (run FT S T n)) T N ops.toList ops.toList E H with
          | some (E', H') => some (.normal, E', H')
          | none => none)) = some (e, E', H') at h
      replace h := bsel_c h; rcases h with ⟨h1, h⟩ | ⟨h1, h⟩
      · subst h1
        split at h
        · rename_i plan hp
          split at h
          · rename_i E2 H2 hr
            simp only [Option.some.injEq, Prod.mk.injEq] at h
            obtain ⟨rfl, rfl, rfl⟩ := h
            unfold codeOk at hok
            simp only [bsel] at hok
            rw [hp] at hok
            simp only at hok
            replace hok := and_t hok; obtain ⟨ho1, ho2⟩ := hok
            rw [List.all_eq_true] at ho2
            refine ⟨iplan_mono hT hcall plan E H hr, fun C hC w0 Fr μ0 μ a w hs he => ?_⟩
            refine wp_region_any hm ?_
            have hdst : ∀ i d, dstOf ops.toList i = some d → d < N := fun i d hd => by
              unfold dstOf at hd
              split at hd
              · rename_i o ho
                have := ho2 o (List.mem_of_getElem? ho)
                rw [hd] at this
                simp only at this
                rwa [Nat.blt_eq] at this
              · cases hd
            have hrs : RS C w0 Fr μ0 ops.toList N [] [] [] E H (Array.replicate ops.size false) a w.drew := by
              refine ⟨by simp, fun k hk hl => ?_, (fun k hk => by cases hk), (fun p hp => by cases hp), μ, ⟨hs.h.drew, hs.ext, hs.frm.drew, hs.old, hs.new, hs.len, hs.back⟩, ⟨he.size, he.defers, fun s v hv _ => he.val s v hv fun h => h⟩, (fun x hx => by cases hx), (fun x hx => by cases hx), (fun x hx => by cases hx)⟩
              rw [Array.length_toList] at hk
              simp [Array.getD, hk] at hl
            have := plan_sound hT hcall hN hdst plan [] [] [] [] E H ho1 ⟨(fun p hp => by cases hp), (fun p hp => by cases hp), (fun p hp => by cases hp), (fun p hp => by cases hp)⟩ (fun p hp => by cases hp) (fun p hp => by cases hp) (fun p hp => by cases hp) (fun p hp => by cases hp) ⟨(fun x hx => by cases hx), (fun x hx => by cases hx), (fun x hx => by cases hx), .nil, (fun x hx => by cases hx)⟩ hr hC ops.size (Array.replicate ops.size false) a w.drew (by unfold cnt; exact Nat.le_trans (List.length_filter_le _ _) (by simp)) hrs
            simpa using this
          · cases h
        · cases h
      · subst h1
        split at h
        · rename_i E2 H2 hr
          simp only [Option.some.injEq, Prod.mk.injEq] at h
          obtain ⟨rfl, rfl, rfl⟩ := h
          refine ⟨iops_mono hT hcall ops.toList E H E2 H2 hr, fun C hC w0 Fr μ0 μ a w hs he => ?_⟩
          have := iops_sound hT hcall hN ops.toList E H E2 H2 hr hC w0 Fr μ0 μ a w hs he
          exact wp_region_list (by simpa using this)
        · cases h
    | seq x y =>
      change (match run FT S T n N dr x E H with
        | some (e, E', H') => match e with
          | .normal => run FT S T n N dr y E' H'
          | e => some (e, E', H')
        | none => none) = some (e, E', H') at h
      unfold codeOk at hok
      replace hok := and_t hok; obtain ⟨ho1, ho2⟩ := hok
      split at h
      · rename_i e1 E1 H1 hr
        obtain ⟨m1, k1⟩ := ih N dr x E H e1 E1 H1 hr ho1 hN
        split at h
        · obtain ⟨m2, k2⟩ := ih N dr y E1 H1 e E' H' h ho2 hN
          refine ⟨m1.trans m2, fun C hC w0 Fr μ0 μ a w hs he => wp_seq (wp_mono (k1 C hC w0 Fr μ0 μ a w hs he) ?_)⟩
          rintro e2 a' w' ⟨rfl, μ', q1, q2⟩
          exact k2 C (hC.mono m1) w0 Fr μ0 μ' a' w' q1 q2
        · rename_i hne
          simp only [Option.some.injEq, Prod.mk.injEq] at h
          obtain ⟨rfl, rfl, rfl⟩ := h
          refine ⟨m1, fun C hC w0 Fr μ0 μ a w hs he => wp_seq (wp_mono (k1 C hC w0 Fr μ0 μ a w hs he) ?_)⟩
          rintro e2 a' w' ⟨rfl, μ', q1, q2⟩
          cases e2 with
          | normal => exact (hne rfl).elim
          | _ => exact ⟨rfl, μ', q1, q2⟩
      · cases h
    | cond x y z =>
      change (match opd E x with
        | some (.bool q) => bsel q (run FT S T n N dr y E H) (run FT S T n N dr z E H)
        | _ => none) = some (e, E', H') at h
      unfold codeOk at hok
      replace hok := and_t hok; obtain ⟨ho1, ho2⟩ := hok
      split at h
      · rename_i q hq
        replace h := bsel_c h; rcases h with ⟨h1, h⟩ | ⟨h1, h⟩
        · subst h1
          obtain ⟨m1, k1⟩ := ih N dr y E H e E' H' h ho1 hN
          exact ⟨m1, fun C hC w0 Fr μ0 μ a w hs he => wp_cond_true ((he.er.eval (opd_geval (he.sees fun _ _ => id) hq)).plain_eq rfl) (k1 C hC w0 Fr μ0 μ a w hs he)⟩
        · subst h1
          obtain ⟨m1, k1⟩ := ih N dr z E H e E' H' h ho2 hN
          exact ⟨m1, fun C hC w0 Fr μ0 μ a w hs he => wp_cond_false ((he.er.eval (opd_geval (he.sees fun _ _ => id) hq)).plain_eq rfl) (k1 C hC w0 Fr μ0 μ a w hs he)⟩
      · cases h
    | block id b =>
      change (match run FT S T n N dr b E H with
        | some (e, E', H') => match e with
          | .exit k => bsel (Nat.beq k id) (some (.normal, E', H')) (some (.exit k, E', H'))
          | e => some (e, E', H')
        | none => none) = some (e, E', H') at h
      unfold codeOk at hok
      split at h
      · rename_i e1 E1 H1 hr
        obtain ⟨m1, k1⟩ := ih N dr b E H e1 E1 H1 hr hok hN
        have fin : H' = H1 → (∀ C w0 Fr μ0 a w, IPost N C w0 Fr μ0 e1 E1 H1 e1 a w → Exit.inBlock id (IPost N C w0 Fr μ0 e E' H') e1 a w) → Mono H H' ∧ ∀ (C : Ctx), CL C H → ∀ w0 Fr μ0 μ a w, Sim C w0 Fr μ0 μ H.abs w → ERt μ N E (fun _ => False) a → (Code.block id b).wp P (IPost N C w0 Fr μ0 e E' H') a w := by
          intro hH hq
          refine ⟨by rw [hH]; exact m1, fun C hC w0 Fr μ0 μ a w hs he => wp_block (wp_mono (k1 C hC w0 Fr μ0 μ a w hs he) ?_)⟩
          rintro e2 a' w' ⟨rfl, q⟩
          exact hq C w0 Fr μ0 a' w' ⟨rfl, q⟩
        split at h
        · rename_i k
          replace h := bsel_c h
          rcases Decidable.em (k = id) with hk | hk
          · subst hk
            rcases h with ⟨_, h⟩ | ⟨h1, _⟩
            · simp only [Option.some.injEq, Prod.mk.injEq] at h
              obtain ⟨rfl, rfl, rfl⟩ := h
              refine fin rfl fun C w0 Fr μ0 a w q => ?_
              simp only [Exit.inBlock, if_true]
              exact ⟨rfl, q.2⟩
            · simp at h1
          · rcases h with ⟨h1, _⟩ | ⟨_, h⟩
            · exact absurd (Nat.eq_of_beq_eq_true h1) hk
            · simp only [Option.some.injEq, Prod.mk.injEq] at h
              obtain ⟨rfl, rfl, rfl⟩ := h
              refine fin rfl fun C w0 Fr μ0 a w q => ?_
              simp only [Exit.inBlock, hk, if_false]
              exact q
        · rename_i hne
          simp only [Option.some.injEq, Prod.mk.injEq] at h
          obtain ⟨rfl, rfl, rfl⟩ := h
          refine fin rfl fun C w0 Fr μ0 a w q => ?_
          cases e1 with
          | exit k => exact (hne k rfl).elim
          | _ => exact q
      · cases h
    | loop b =>
      have hok' : codeOk N dr b = true := by unfold codeOk at hok; exact hok
      have hrun : run FT S T (n + 1) N dr (.loop b) E H = some (e, E', H') := h
      have step : ∀ k E H, run FT S T (k + 1) N dr (.loop b) E H = some (e, E', H') → (match run FT S T k N dr b E H with
          | some (e, E', H') => match e with
            | .normal => run FT S T k N dr (.loop b) E' H'
            | e => some (e, E', H')
          | none => none) = some (e, E', H') := fun _ _ _ h => h
      have mono : ∀ k, k ≤ n + 1 → ∀ E H, run FT S T k N dr (.loop b) E H = some (e, E', H') → Mono H H' := by
        intro k
        induction k with
        | zero => intro _ E H hr; cases hr
        | succ k ihk =>
          intro hk E H hr
          replace hr := step k E H hr
          split at hr
          · rename_i e1 E1 H1 hr1
            have m1 := (ihs k (by omega) N dr b E H e1 E1 H1 hr1 hok' hN).1
            split at hr
            · exact m1.trans (ihk (by omega) E1 H1 hr)
            · simp only [Option.some.injEq, Prod.mk.injEq] at hr
              obtain ⟨rfl, rfl, rfl⟩ := hr
              exact m1
          · cases hr
      refine ⟨mono (n + 1) (Nat.le_refl _) E H hrun, fun C hC w0 Fr μ0 μ a w hs he => ?_⟩
      refine wp_loop_ghost (fun k a w => k ≤ n + 1 ∧ ∃ μ E H, run FT S T k N dr (.loop b) E H = some (e, E', H') ∧ CL C H ∧ Sim C w0 Fr μ0 μ H.abs w ∧ ERt μ N E (fun _ => False) a) (n + 1) ⟨Nat.le_refl _, μ, E, H, hrun, hC, hs, he⟩ ?_
      rintro k a w ⟨hk, μ, E, H, hr, hC, hs, he⟩
      cases k with
      | zero => cases hr
      | succ k =>
        replace hr := step k E H hr
        split at hr
        · rename_i e1 E1 H1 hr1
          obtain ⟨m1, k1⟩ := ihs k (by omega) N dr b E H e1 E1 H1 hr1 hok' hN
          refine wp_mono (k1 C hC w0 Fr μ0 μ a w hs he) ?_
          rintro e2 a' w' ⟨rfl, μ', q1, q2⟩
          split at hr
          · exact ⟨k, by omega, by omega, μ', E1, H1, hr, hC.mono m1, q1, q2⟩
          · rename_i hne
            simp only [Option.some.injEq, Prod.mk.injEq] at hr
            obtain ⟨rfl, rfl, rfl⟩ := hr
            cases e2 with
            | normal => exact (hne rfl).elim
            | _ => exact ⟨rfl, μ', q1, q2⟩
        · cases hr
    | _ => cases h
end
end Go.Proofs.Ytcbngjpihcemiaa
