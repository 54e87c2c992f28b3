/- The quick heap: what reads, is read so. -/
import Derived.Test.YtcbngjpihcemiaaIc
namespace Go.Proofs.Ytcbngjpihcemiaa
open Go.RowKit

theorem bsel_t {β : Type} {b : Bool} {x : Option β} {r : β} (h : bsel b x none = some r) : b = true ∧ x = some r := by
  cases b with
  | true => exact ⟨rfl, h⟩
  | false => cases h
theorem bsel_f {β : Type} {b : Bool} {x : Option β} {r : β} (h : bsel b none x = some r) : b = false ∧ x = some r := by
  cases b with
  | false => exact ⟨rfl, h⟩
  | true => cases h
theorem bsel_c {β : Type} {b : Bool} {x y : Option β} {r : β} (h : bsel b x y = some r) : (b = true ∧ x = some r) ∨ (b = false ∧ y = some r) := by
  cases b with
  | true => exact .inl ⟨rfl, h⟩
  | false => exact .inr ⟨rfl, h⟩
theorem bytes_toList (a : ByteArray) : a.toList = a.data.toList := by
  obtain ⟨⟨l⟩⟩ := a
  exact ByteArray.toList_mk l
theorem agg_part (cs : Array Value) (a n : Nat) : ((cs.toList.drop a).take n).toArray = cs.extract a (a + n) := by
  apply Array.toList_inj.1
  rw [Array.toList_extract]
  simp [List.extract_eq_take_drop]
theorem and_t {a b : Bool} (h : (a && b) = true) : a = true ∧ b = true := by simpa using h
theorem kind_t {k k' : IntKind} (h : (k == k') = true) : k = k' := by simpa using h
section
variable {P : Program} {T : Tab} {o : Oper} {env : Env} {E : Tr Value} {H : PH} {x y : Operand} {t : TypeId} {u v r : Value}
theorem ibin_sound (hT : T.ok P) {op : BinOp} {yt : TypeId} (ho : o.op = .binOp op t x y yt) (hx : geval env x = some u) (hy : geval env y = some v) (h : ibin T op t u v = some r) : ∃ Ts, GRd P o env H.abs r Ts := by
  unfold ibin at h
  split at h
  · rename_i k a
    split at h
    · rename_i k' b
      cases op with
      | add =>
        replace h := bsel_t h; obtain ⟨h1, h⟩ := h
        obtain rfl := kind_t h1
        injection h with h; subst h
        rw [wrapF_eq]
        exact ⟨[], grd_add ho hx hy⟩
      | sub =>
        replace h := bsel_t h; obtain ⟨h1, h⟩ := h
        obtain rfl := kind_t h1
        injection h with h; subst h
        rw [wrapF_eq]
        exact ⟨[], grd_sub ho hx hy⟩
      | mul =>
        replace h := bsel_t h; obtain ⟨h1, h⟩ := h
        obtain rfl := kind_t h1
        injection h with h; subst h
        rw [wrapF_eq]
        exact ⟨[], grd_mul ho hx hy⟩
      | quo =>
        replace h := bsel_t h; obtain ⟨h1, h⟩ := h
        replace h1 := and_t h1; obtain ⟨h1, h2⟩ := h1
        obtain rfl := kind_t h1
        rw [ieqB_eq] at h2
        injection h with h; subst h
        rw [wrapF_eq]
        exact ⟨[], grd_quo ho hx hy (by simpa using h2)⟩
      | rem =>
        replace h := bsel_t h; obtain ⟨h1, h⟩ := h
        replace h1 := and_t h1; obtain ⟨h1, h2⟩ := h1
        obtain rfl := kind_t h1
        rw [ieqB_eq] at h2
        injection h with h; subst h
        exact ⟨[], grd_rem ho hx hy (by simpa using h2)⟩
      | eql =>
        replace h := bsel_t h; obtain ⟨h1, h⟩ := h
        obtain rfl := kind_t h1
        injection h with h; subst h
        rw [ieqB_eq]
        exact ⟨[], grd_eql ho hx hy⟩
      | neq =>
        replace h := bsel_t h; obtain ⟨h1, h⟩ := h
        obtain rfl := kind_t h1
        injection h with h; subst h
        rw [ieqB_eq]
        have := grd_neq (P := P) (H := H.abs) ho hx hy
        have e : decide (a ≠ b) = !decide (a = b) := by simp
        rw [e] at this
        exact ⟨[], this⟩
      | lss =>
        replace h := bsel_t h; obtain ⟨h1, h⟩ := h
        obtain rfl := kind_t h1
        injection h with h; subst h
        rw [iltB_eq]
        exact ⟨[], grd_lss ho hx hy⟩
      | leq =>
        replace h := bsel_t h; obtain ⟨h1, h⟩ := h
        obtain rfl := kind_t h1
        injection h with h; subst h
        rw [iltB_eq]
        have := grd_leq (P := P) (H := H.abs) ho hx hy
        have e : decide (a ≤ b) = !decide (b < a) := by
          by_cases h : a ≤ b
          · simp [h, Int.not_lt.2 h]
          · simp [h, Int.not_le.1 h]
        rw [e] at this
        exact ⟨[], this⟩
      | gtr =>
        replace h := bsel_t h; obtain ⟨h1, h⟩ := h
        obtain rfl := kind_t h1
        injection h with h; subst h
        rw [iltB_eq]
        exact ⟨[], grd_gtr ho hx hy⟩
      | geq =>
        replace h := bsel_t h; obtain ⟨h1, h⟩ := h
        obtain rfl := kind_t h1
        injection h with h; subst h
        rw [iltB_eq]
        have := grd_geq (P := P) (H := H.abs) ho hx hy
        have e : decide (b ≤ a) = !decide (a < b) := by
          by_cases h : b ≤ a
          · simp [h, Int.not_lt.2 h]
          · simp [h, Int.not_le.1 h]
        rw [e] at this
        exact ⟨[], this⟩
      | shl =>
        replace h := bsel_t h; obtain ⟨h1, h⟩ := h
        rw [iltB_eq] at h1
        injection h with h; subst h
        rw [wrapF_eq]
        exact ⟨[], grd_shl ho hx hy (by simpa using h1)⟩
      | shr =>
        replace h := bsel_t h; obtain ⟨h1, h⟩ := h
        rw [iltB_eq] at h1
        injection h with h; subst h
        exact ⟨[], grd_shr ho hx hy (by simpa using h1)⟩
      | and =>
        replace h := bsel_t h; obtain ⟨h1, h⟩ := h
        obtain rfl := kind_t h1
        injection h with h; subst h
        exact ⟨[], grd_bits .and (.inl rfl) ho hx hy⟩
      | or =>
        replace h := bsel_t h; obtain ⟨h1, h⟩ := h
        obtain rfl := kind_t h1
        injection h with h; subst h
        exact ⟨[], grd_bits .or (.inr (.inl rfl)) ho hx hy⟩
      | xor =>
        replace h := bsel_t h; obtain ⟨h1, h⟩ := h
        obtain rfl := kind_t h1
        injection h with h; subst h
        exact ⟨[], grd_bits .xor (.inr (.inr (.inl rfl))) ho hx hy⟩
      | andNot =>
        replace h := bsel_t h; obtain ⟨h1, h⟩ := h
        obtain rfl := kind_t h1
        injection h with h; subst h
        exact ⟨[], grd_bits .andNot (.inr (.inr (.inr rfl))) ho hx hy⟩
    · cases h
  · rename_i a
    split at h
    · rename_i b
      split at h
      · injection h with h; subst h
        rw [bsEq_eq]
        have := grd_seql (P := P) (H := H.abs) ho hx hy
        rw [bytes_toList, bytes_toList] at this
        exact ⟨[], this⟩
      · injection h with h; subst h
        rw [bsEq_eq]
        have := grd_sneq (P := P) (H := H.abs) ho hx hy
        rw [bytes_toList, bytes_toList] at this
        exact ⟨[], this⟩
      · replace h := bsel_t h; obtain ⟨h1, h⟩ := h
        injection h with h; subst h
        have h2 : a.data.toList.length + b.data.toList.length ≤ 9223372036854775807 := ble_le h1
        rw [Array.length_toList, Array.length_toList] at h2
        exact ⟨[], grd_sadd ho hx hy h2⟩
      · cases h
    · cases h
  · split at h
    · split at h
      · rename_i i ht
        split at h
        · rename_i hd
          split at h
          · injection h with h; subst h
            exact ⟨[], grd_beql hT ho ht hd hx hy⟩
          · injection h with h; subst h
            exact ⟨[], grd_bneq hT ho ht hd hx hy⟩
          · cases h
        · cases h
      · cases h
    · cases h
  · split at h
    · split at h
      · rename_i i ht
        split at h
        · rename_i hd
          split at h
          · injection h with h; subst h
            exact ⟨[], grd_peql hT ho ht hd hx hy⟩
          · injection h with h; subst h
            exact ⟨[], grd_pneq hT ho ht hd hx hy⟩
          · cases h
        · cases h
      · cases h
    · cases h
  · split at h
    · split at h
      · rename_i i ht
        split at h
        · rename_i hd
          split at h
          · injection h with h; subst h
            exact ⟨[], grd_sleql hT ho ht hd hx hy⟩
          · injection h with h; subst h
            exact ⟨[], grd_slneq hT ho ht hd hx hy⟩
          · cases h
        · cases h
      · cases h
    · cases h
  · split at h
    · split at h
      · rename_i i ht
        replace h := bsel_t h; obtain ⟨h1, h⟩ := h
        simp only [Bool.and_eq_true, Bool.not_eq_true'] at h1
        obtain ⟨⟨⟨h1, h2⟩, h3⟩, h4⟩ := h1
        split at h
        · injection h with h; subst h
          rw [lEqK_eq]
          exact ⟨[], grd_aeql hT ho ht h1 h2 hx hy h3 h4⟩
        · injection h with h; subst h
          rw [lEqK_eq]
          exact ⟨[], grd_aneq hT ho ht h1 h2 hx hy h3 h4⟩
        · cases h
      · cases h
    · cases h
  · split at h
    · split at h
      · rename_i i ht
        split at h
        · rename_i hd
          obtain ⟨m, hm⟩ := Tab.isIface hT ht hd
          split at h
          all_goals first
            | cases h; done
            | injection h with h
              subst h
              refine ⟨[], .pure fun μ N a he => ?_⟩
              have h1 := he.eval hx
              have h2 := (he.eval hy).plain_eq rfl
              generalize hv : a.eval x = v at h1
              refine ⟨_, .bool _, fun w => ?_⟩
              cases h1
              first | (simp [execOp, ho, hv, h2, eqGuard, binOp, run_eq_iface _ _ _ hm]; done) | (simp [execOp, ho, hv, h2, eqGuard, binOp, run_eq_iface _ _ _ hm, run_guard_iface _ _ _ hm]; done)
        · cases h
      · cases h
    · cases h
  · cases h
theorem iload_sound (hT : T.ok P) (ho : o.op = .load t x) (hx : geval env x = some u) (h : iload T H t u = some r) : ∃ Ts, GRd P o env H.abs r Ts := by
  unfold iload at h
  split at h
  · rename_i j off
    split at h
    · rename_i b hb
      split at h
      · rename_i i ht
        replace h := bsel_c h; rcases h with ⟨h1, h⟩ | ⟨h1, h⟩
        · replace h := bsel_t h; obtain ⟨h2, h⟩ := h
          injection h with h; subst h
          replace h2 := ble_le h2
          rw [FB.run_eq _ _ _ h2]
          exact ⟨_, grd_loadN hT ho ht h1 hx (PH.abs_at hb) (by simpa [FB.abs] using h2)⟩
        · replace h := bsel_t h; obtain ⟨h2, h⟩ := h
          injection h with h; subst h
          replace h2 := ble_le h2
          exact ⟨_, grd_load1 hT ho ht h1 hx (PH.abs_at hb) (by simpa [FB.abs] using b.cells_get h2)⟩
      · cases h
    · cases h
  · cases h
theorem ifieldAddr_sound (hT : T.ok P) {f : Nat} (ho : o.op = .fieldAddr t x f) (hx : geval env x = some u) (h : ifieldAddr T t f u = some r) : ∃ Ts, GRd P o env H.abs r Ts := by
  unfold ifieldAddr at h
  split at h
  · split at h
    · rename_i i ht
      split at h
      · rename_i gs hd
        split at h
        · rename_i hf
          injection h with h; subst h
          exact ⟨_, grd_fieldAddr hT ho ht hd hf hx⟩
        · cases h
      · cases h
    · cases h
  · cases h
theorem ifield_sound (hT : T.ok P) {f : Nat} (ho : o.op = .field t x f) (hx : geval env x = some u) (h : ifield T t f u = some r) : ∃ Ts, GRd P o env H.abs r Ts := by
  unfold ifield at h
  split at h
  · split at h
    · rename_i i ht
      split at h
      · rename_i gs hd
        split at h
        · rename_i hf
          split at h
          · rename_i i2 ht2
            replace h := bsel_c h; rcases h with ⟨h1, h⟩ | ⟨h1, h⟩
            · replace h := bsel_t h; obtain ⟨h2, h⟩ := h
              injection h with h; subst h
              replace h2 := ble_le h2
              rw [agg_part]
              exact ⟨_, grd_fieldN hT ho ht hd hf ht2 h1 hx⟩
            · exact ⟨_, grd_field1 hT ho ht hd hf ht2 h1 hx (by simpa using h)⟩
          · cases h
        · cases h
      · cases h
    · cases h
  · cases h
theorem iindexAddr_sound (hT : T.ok P) (ho : o.op = .indexAddr t x y) (hx : geval env x = some u) (hy : geval env y = some v) (h : iindexAddr T t u v = some r) : ∃ Ts, GRd P o env H.abs r Ts := by
  unfold iindexAddr at h
  split at h
  · rename_i k m
    split at h
    · rename_i i ht
      split at h
      · rename_i hd
        split at h
        · replace h := bsel_t h; obtain ⟨h2, h⟩ := h
          injection h with h; subst h
          replace h2 := ble_le h2
          exact ⟨_, grd_indexAddr hT ho ht hd hx hy (by simp) (by simp only [Int.ofNat_eq_natCast]; omega)⟩
        · cases h
      · rename_i hd
        split at h
        · replace h := bsel_t h; obtain ⟨h2, h⟩ := h
          injection h with h; subst h
          replace h2 := ble_le h2
          exact ⟨_, grd_indexAddrA hT ho ht hd hx hy (by simp) (by simp only [Int.ofNat_eq_natCast]; omega)⟩
        · cases h
      · cases h
    · cases h
  · cases h
theorem iindex_sound (hT : T.ok P) (ho : o.op = .index t x y) (hx : geval env x = some u) (hy : geval env y = some v) (h : iindex T t u v = some r) : ∃ Ts, GRd P o env H.abs r Ts := by
  unfold iindex at h
  split at h
  · rename_i k m
    split at h
    · rename_i i ht
      split at h
      · rename_i hd
        split at h
        · rename_i s
          split at h
          · rename_i c hc
            injection h with h; subst h
            refine ⟨_, grd_indexS hT ho ht hd hx hy (by simp) ?_⟩
            simp only [Int.ofNat_eq_natCast, Int.toNat_natCast]
            rw [Array.getElem?_toList] at hc
            exact hc
          · cases h
        · cases h
      · rename_i n e z hd
        split at h
        · rename_i cs
          split at h
          · rename_i i2 ht2
            replace h := bsel_t h; obtain ⟨h2, h⟩ := h
            replace h2 := ble_le h2
            replace h := bsel_c h; rcases h with ⟨h1, h⟩ | ⟨h1, h⟩
            · replace h := bsel_t h; obtain ⟨h3, h⟩ := h
              injection h with h; subst h
              rw [agg_part]
              exact ⟨_, grd_indexVN hT ho ht hd ht2 h1 hx hy (by simp) (by simp only [Int.ofNat_eq_natCast]; omega)⟩
            · exact ⟨_, grd_indexV1 hT ho ht hd ht2 h1 hx hy (by simp) (by simp only [Int.ofNat_eq_natCast]; omega) (by simpa using h)⟩
          · cases h
        · cases h
      · cases h
    · cases h
  · cases h
theorem ibnd_sound {bd : Option Operand} {d m : Nat} (hs : ∀ z, bd = some z → Sees env E (opTmps z)) (h : ibnd E bd d = some m) : gbound env bd d m := by
  unfold ibnd at h
  split at h
  · injection h with h; subst h; rfl
  · rename_i z
    split at h
    · rename_i k n hz
      injection h with h; subst h
      exact ⟨_, opd_geval (hs z rfl) hz⟩
    · cases h
theorem islice_sound (hT : T.ok P) {lo hi mx : Option Operand} (hs : Sees env E (o.op.operands.toList.flatMap opTmps)) (ho : o.op = .slice t x lo hi mx) (hx : geval env x = some u) (h : islice T E H t u lo hi mx = some r) : ∃ Ts, GRd P o env H.abs r Ts := by
  have hl : ∀ z, lo = some z → Sees env E (opTmps z) := fun z e s hz => hs s (by rw [ho]; subst e; simp [Op.operands, hz])
  have hh : ∀ z, hi = some z → Sees env E (opTmps z) := fun z e s hz => hs s (by rw [ho]; subst e; simp [Op.operands, hz])
  have hm : ∀ z, mx = some z → Sees env E (opTmps z) := fun z e s hz => hs s (by rw [ho]; subst e; simp [Op.operands, hz])
  unfold islice at h
  split at h
  · rename_i i ht
    split at h
    · rename_i e z by_ zr hd
      split at h
      · rename_i j off n c
        split at h
        · rename_i l e1
          split at h
          · rename_i hn e2
            split at h
            · replace h := bsel_c h; rcases h with ⟨h1, h⟩ | ⟨h1, h⟩
              · split at h
                · rename_i b hb
                  replace h := bsel_t h; obtain ⟨h2, h⟩ := h
                  replace h2 := and_t h2; obtain ⟨h2, h4⟩ := h2
                  replace h2 := and_t h2; obtain ⟨h2, h3⟩ := h2
                  injection h with h; subst h
                  exact ⟨_, grd_sliceU hT ho ht hd hx (ibnd_sound hl e1) (ibnd_sound hh e2) (ble_le h3) (ble_le h4) (ble_le h1) (PH.abs_at hb) (Nat.eq_of_beq_eq_true h2)⟩
                · cases h
              · replace h := bsel_t h; obtain ⟨h2, h⟩ := h
                replace h2 := and_t h2; obtain ⟨h2, h3⟩ := h2
                injection h with h; subst h
                have hc : c < capU := by
                  rcases Nat.lt_or_ge c capU with q | q
                  · exact q
                  · rw [ble_t q] at h1; cases h1
                exact ⟨_, grd_slice hT ho ht hd hx (ibnd_sound hl e1) (ibnd_sound hh e2) rfl (fun h => by cases h) (ble_le h2) (ble_le h3) (Nat.le_refl _) hc⟩
            · rename_i mo
              split at h
              · rename_i m e3
                replace h := bsel_t h; obtain ⟨h2, h⟩ := h
                replace h2 := and_t h2; obtain ⟨h2, h5⟩ := h2
                replace h2 := and_t h2; obtain ⟨h2, h4⟩ := h2
                replace h2 := and_t h2; obtain ⟨h2, h3⟩ := h2
                injection h with h; subst h
                exact ⟨_, grd_sliceUmax hT ho ht hd hx (ibnd_sound hl e1) (ibnd_sound hh e2) (ibnd_sound hm e3) h2 (ble_le h3) (ble_le h4) (ble_le h5)⟩
              · cases h
          · cases h
        · cases h
      · split at h
        · rename_i e1
          split at h
          · rename_i e2
            split at h
            · rename_i e3
              replace h := bsel_t h; obtain ⟨h2, h⟩ := h
              injection h with h; subst h
              exact ⟨_, grd_slice0 hT ho ht hd hx (ibnd_sound hl e1) (ibnd_sound hh e2) (ibnd_sound hm e3) (fun q => by rw [q] at h2; simpa using h2)⟩
            · cases h
          · cases h
        · cases h
      · cases h
    · rename_i n e z hd
      split at h
      · split at h
        · rename_i e1
          split at h
          · rename_i e2
            split at h
            · rename_i e3
              replace h := bsel_t h; obtain ⟨h2, h⟩ := h
              replace h2 := and_t h2; obtain ⟨h2, h6⟩ := h2
              replace h2 := and_t h2; obtain ⟨h2, h5⟩ := h2
              replace h2 := and_t h2; obtain ⟨h2, h4⟩ := h2
              replace h2 := and_t h2; obtain ⟨h2, h3⟩ := h2
              injection h with h; subst h
              exact ⟨_, grd_sliceA hT ho ht hd hx (ibnd_sound hl e1) (ibnd_sound hh e2) (ibnd_sound hm e3) (fun q => by rw [q] at h2; simpa using h2) (ble_le h3) (ble_le h4) (ble_le h5) (ble_le h6)⟩
            · cases h
          · cases h
        · cases h
      · cases h
    · rename_i hd
      split at h
      · split at h
        · split at h
          · rename_i e1
            split at h
            · rename_i e2
              replace h := bsel_t h; obtain ⟨h2, h⟩ := h
              replace h2 := and_t h2; obtain ⟨h2, h3⟩ := h2
              injection h with h; subst h
              exact ⟨_, grd_sliceS hT ho ht hd hx (ibnd_sound hl e1) (ibnd_sound hh e2) (ble_le h2) (ble_le h3)⟩
            · cases h
          · cases h
        · cases h
      · cases h
    · cases h
  · cases h
theorem iconv_sound (hT : T.ok P) {s d : TypeId} (ho : o.op = .convert s d x) (hx : geval env x = some u) (h : iconv T H s d u = some r) : ∃ Ts, GRd P o env H.abs r Ts := by
  unfold iconv at h
  split at h
  · rename_i i ht
    split at h
    · rename_i i2 ht2
      split at h
      · split at h
        · rename_i hd2
          injection h with h; subst h
          rw [wrapF_eq]
          exact ⟨_, grd_conv hT ho ht ht2 hd2 hx⟩
        · cases h
      · rename_i p n c
        split at h
        · rename_i hd
          split at h
          · rename_i i3 ht3
            split at h
            · rename_i hd3
              split at h
              · rename_i hd2
                split at h
                · split at h
                  · rename_i b hb
                    replace h := bsel_t h; obtain ⟨h2, h⟩ := h
                    split at h
                    · rename_i l hl
                      injection h with h; subst h
                      replace h2 := ble_le h2
                      rw [FB.run_eq _ _ _ h2] at hl
                      have hl := cellsB_vb _ _ hl
                      refine ⟨_, grd_str hT ho ht hd ht3 hd3 ht2 hd2 hx (PH.abs_at hb) (by simpa [FB.abs] using hl) ?_⟩
                      have := congrArg List.length hl
                      rw [List.length_take, List.length_drop, FB.cells_len, vb_length] at this
                      omega
                    · cases h
                  · cases h
                · replace h := bsel_t h; obtain ⟨h2, h⟩ := h
                  injection h with h; subst h
                  obtain rfl := Nat.eq_of_beq_eq_true h2
                  exact ⟨[], .pure fun μ N a he => by
                    have hv := he.eval hx
                    obtain ⟨Ts, hg⟩ : ∃ Ts : List Nat, True := ⟨[], trivial⟩
                    generalize hq : a.eval x = q at hv
                    cases hv with
                    | sl0 =>
                      refine ⟨_, .string _, fun w => ?_⟩
                      have := run_string_rd (P := P) w s d _ (Tab.slice hT ht hd).1 (Tab.int hT ht3 hd3) (Tab.str hT ht2 hd2) 0 0 [] rfl (Rd.nil_ w 0 none)
                      simp [execOp, ho, hq, this]⟩
                · cases h
              · cases h
            · cases h
          · cases h
        · cases h
      · cases h
    · cases h
  · cases h
theorem iun_sound {op : UnOp} (ho : o.op = .unOp op t x) (hx : geval env x = some u) (h : iun op u = some r) : ∃ Ts, GRd P o env H.abs r Ts := by
  unfold iun at h
  split at h
  · split at h
    · injection h with h; subst h
      exact ⟨_, grd_not ho hx⟩
    · cases h
  · split at h
    · injection h with h; subst h
      rw [wrapF_eq]
      exact ⟨_, grd_neg ho hx⟩
    · cases h
  · split at h
    · injection h with h; subst h
      exact ⟨[], .pure fun μ N a he => ⟨_, .int _ _, fun w => by simp [execOp, ho, (he.eval hx).plain_eq rfl, Op.unary, Op.intBits, bits, IntKind.signed, IntKind.max, IntKind.bits]⟩⟩
    · injection h with h; subst h
      exact ⟨[], .pure fun μ N a he => ⟨_, .int _ _, fun w => by simp [execOp, ho, (he.eval hx).plain_eq rfl, Op.unary, Op.intBits, bits, IntKind.signed, IntKind.max, IntKind.bits]⟩⟩
    · cases h
  · cases h
theorem inil_sound (ho : o.op = .nilCheck x) (hx : geval env x = some u) (h : inil u = some r) : ∃ Ts, GRd P o env H.abs r Ts := by
  unfold inil at h
  split at h
  · injection h with h; subst h
    exact ⟨_, grd_nil ho hx⟩
  · rename_i f a b
    injection h with h; subst h
    refine ⟨[], .pure fun μ N ac he => ?_⟩
    have hv := he.eval hx
    generalize hq : ac.eval x = q at hv
    cases hv with
    | func fn h1 h2 => exact ⟨_, .func _ h1 h2, fun w => by simp [execOp, ho, hq]⟩
  · cases h
theorem iparts_eq : ∀ {l : List (Nat × Operand)} {vs : List (Nat × Value)}, Sees env E ((l.map (·.2)).flatMap opTmps) → iparts E l = some vs → gparts env l = some vs
  | [], vs, _, h => h
  | (i, x) :: l, vs, hs, h => by
    unfold iparts at h
    split at h
    · rename_i v hv
      split at h
      · rename_i ws hw
        injection h with h; subst h
        unfold gparts
        rw [opd_geval (fun s hz => hs s (by simp [hz])) hv, iparts_eq (fun s hz => hs s (by simp only [List.map_cons, List.flatMap_cons, List.mem_append]; exact .inr hz)) hw]
      · cases h
    · cases h
theorem iargs_eq : ∀ {l : List Operand} {vs : List Value}, Sees env E (l.flatMap opTmps) → iargs E l = some vs → gargs env l = some vs
  | [], vs, _, h => h
  | x :: l, vs, hs, h => by
    unfold iargs at h
    split at h
    · rename_i v hv
      split at h
      · rename_i ws hw
        injection h with h; subst h
        unfold gargs
        rw [opd_geval (fun s hz => hs s (by simp [hz])) hv, iargs_eq (fun s hz => hs s (by simp only [List.flatMap_cons, List.mem_append]; exact .inr hz)) hw]
      · cases h
    · cases h
/-- What is read, is so. -/
theorem iassert_sound {i : TyI} {x : Operand} {xt t : TypeId} {ok : Bool} {v : Value} (hT : T.ok P) (ho : o.op = .typeAssert x xt t ok) (ht : T t = some i) (hi : ifaceD i = false) (hx : geval env x = some v) (h : iassert i t ok v = some r) : ∃ Ts, GRd P o env H.abs r Ts := by
  obtain ⟨d, hd, hd2⟩ := Tab.notIface hT ht hi
  have up : ∀ {μ : Ren} {u : Value}, VR (fun _ => none) u u → VR μ u u := fun h => h.mono fun _ _ e => by cases e
  unfold iassert at h
  split at h
  · rename_i t' u
    replace h := bsel_c h; rcases h with ⟨h1, h⟩ | ⟨h1, h⟩
    · obtain rfl := Nat.eq_of_beq_eq_true h1
      injection h with h
      subst h
      refine ⟨[], .pure fun μ N a he => ?_⟩
      have hv := he.eval hx
      generalize hr : a.eval x = rx at hv
      cases hv with
      | iface _ hu =>
        rename_i u'
        cases ok with
        | true => exact ⟨.tuple #[u', .bool true], .tuple (.cons hu (.cons (.bool _) .nil)), fun w => by
            simp only [execOp, ho, hr, Instr.typeAssert, Sem.run_bind, run_underlying hd, Result.andThen_ok]
            cases d <;> first | (simp; done) | cases hd2⟩
        | false => exact ⟨u', hu, fun w => by
            simp only [execOp, ho, hr, Instr.typeAssert, Sem.run_bind, run_underlying hd, Result.andThen_ok]
            cases d <;> first | (simp; done) | cases hd2⟩
    · replace h := bsel_t h; obtain ⟨rfl, h⟩ := h
      split at h
      · rename_i z hz
        injection h with h
        subst h
        obtain ⟨z1, z2⟩ := izero_sound hT ht hz
        have hne : t' ≠ t := fun e => by
          subst e
          rw [Nat.beq_refl] at h1
          cases h1
        refine ⟨[], .pure fun μ N ac he => ?_⟩
        have hv := he.eval hx
        generalize hr : ac.eval x = rx at hv
        cases hv with
        | iface _ hu =>
          refine ⟨.tuple #[z, .bool false], .tuple (.cons (up z1) (.cons (.bool _) .nil)), fun w => ?_⟩
          simp only [execOp, ho, hr, Instr.typeAssert, Sem.run_bind, run_underlying hd, Result.andThen_ok]
          cases d <;> first | (simp [hne, z2]; done) | cases hd2
      · cases h
  · replace h := bsel_t h; obtain ⟨rfl, h⟩ := h
    split at h
    · rename_i z hz
      injection h with h
      subst h
      obtain ⟨z1, z2⟩ := izero_sound hT ht hz
      refine ⟨[], .pure fun μ N ac he => ?_⟩
      have hv := (he.eval hx).plain_eq rfl
      refine ⟨.tuple #[z, .bool false], .tuple (.cons (up z1) (.cons (.bool _) .nil)), fun w => ?_⟩
      simp only [execOp, ho, hv, Instr.typeAssert, Sem.run_bind, run_underlying hd, Result.andThen_ok]
      cases d <;> first | (simp [z2]; done) | cases hd2
    · cases h
  · cases h
theorem ird_sound (hT : T.ok P) (hs : Sees env E (o.op.operands.toList.flatMap opTmps)) (h : ird T E H o.op = some r) : ∃ Ts, GRd P o env H.abs r Ts := by
  cases ho : o.op <;> rw [ho] at h <;> simp only [ird] at h <;> try (cases h; done)
  case move x => exact ⟨_, grd_move ho (opd_geval (fun s hz => hs s (by rw [ho]; simpa [Op.operands] using hz)) h)⟩
  case assign x => exact ⟨_, grd_assign ho (opd_geval (fun s hz => hs s (by rw [ho]; simpa [Op.operands] using hz)) h)⟩
  case makeInterface t x =>
    split at h
    · rename_i i ht
      replace h := bsel_f h; obtain ⟨hi, h⟩ := h
      split at h
      · rename_i v hv
        injection h with h
        subst h
        obtain ⟨d, hd, hd2⟩ := Tab.notIface hT ht hi
        exact ⟨_, grd_iface (fun d' h' => by rw [hd] at h'; injection h' with h'; subst h'; exact hd2) (by rw [hd]; rfl) ho (opd_geval (fun s hz => hs s (by rw [ho]; simpa [Op.operands] using hz)) hv)⟩
      · cases h
    · cases h
  case typeAssert x xt t ok =>
    split at h
    · rename_i i ht
      replace h := bsel_f h; obtain ⟨hi, h⟩ := h
      split at h
      · rename_i v hv
        exact iassert_sound hT ho ht hi (opd_geval (fun s hz => hs s (by rw [ho]; simpa [Op.operands] using hz)) hv) h
      · cases h
    · cases h
  case pick c a b =>
    split at h
    · rename_i q hq
      have hc := opd_geval (fun s hz => hs s (by rw [ho]; simp [Op.operands, hz])) hq
      replace h := bsel_c h; rcases h with ⟨h1, h⟩ | ⟨h1, h⟩
      · exact ⟨_, grd_pick_t ho hc h1 (opd_geval (fun s hz => hs s (by rw [ho]; simp [Op.operands, hz])) h)⟩
      · exact ⟨_, grd_pick_f ho hc h1 (opd_geval (fun s hz => hs s (by rw [ho]; simp [Op.operands, hz])) h)⟩
    · cases h
  case nilCheck x =>
    split at h
    · rename_i u hu
      exact inil_sound ho (opd_geval (fun s hz => hs s (by rw [ho]; simpa [Op.operands] using hz)) hu) h
    · cases h
  case extract x k =>
    split at h
    · rename_i l hu
      exact ⟨_, grd_extract ho (opd_geval (fun s hz => hs s (by rw [ho]; simpa [Op.operands] using hz)) hu) (by simpa using h)⟩
    · cases h
  case binOp op t x y yt =>
    split at h
    · rename_i u hu
      split at h
      · rename_i v hv
        exact ibin_sound hT ho (opd_geval (fun s hz => hs s (by rw [ho]; simp [Op.operands, hz])) hu) (opd_geval (fun s hz => hs s (by rw [ho]; simp [Op.operands, hz])) hv) h
      · cases h
    · cases h
  case unOp op t x =>
    split at h
    · rename_i u hu
      exact iun_sound ho (opd_geval (fun s hz => hs s (by rw [ho]; simpa [Op.operands] using hz)) hu) h
    · cases h
  case load t x =>
    split at h
    · rename_i u hu
      exact iload_sound hT ho (opd_geval (fun s hz => hs s (by rw [ho]; simpa [Op.operands] using hz)) hu) h
    · cases h
  case fieldAddr t x f =>
    split at h
    · rename_i u hu
      exact ifieldAddr_sound hT ho (opd_geval (fun s hz => hs s (by rw [ho]; simpa [Op.operands] using hz)) hu) h
    · cases h
  case field t x f =>
    split at h
    · rename_i u hu
      exact ifield_sound hT ho (opd_geval (fun s hz => hs s (by rw [ho]; simpa [Op.operands] using hz)) hu) h
    · cases h
  case indexAddr t x y =>
    split at h
    · rename_i u hu
      split at h
      · rename_i v hv
        exact iindexAddr_sound hT ho (opd_geval (fun s hz => hs s (by rw [ho]; simp [Op.operands, hz])) hu) (opd_geval (fun s hz => hs s (by rw [ho]; simp [Op.operands, hz])) hv) h
      · cases h
    · cases h
  case index t x y =>
    split at h
    · rename_i u hu
      split at h
      · rename_i v hv
        exact iindex_sound hT ho (opd_geval (fun s hz => hs s (by rw [ho]; simp [Op.operands, hz])) hu) (opd_geval (fun s hz => hs s (by rw [ho]; simp [Op.operands, hz])) hv) h
      · cases h
    · cases h
  case slice t x lo hi mx =>
    split at h
    · rename_i u hu
      exact islice_sound hT hs ho (opd_geval (fun s hz => hs s (by rw [ho]; simp [Op.operands, hz])) hu) h
    · cases h
  case convert s d x =>
    split at h
    · rename_i u hu
      exact iconv_sound hT ho (opd_geval (fun s hz => hs s (by rw [ho]; simpa [Op.operands] using hz)) hu) h
    · cases h
  case build t ps =>
    split at h
    · rename_i i ht
      split at h
      · rename_i fs hd
        split at h
        · rename_i vs hp
          replace h := bsel_f h; obtain ⟨h1, h⟩ := h
          split at h
          · rename_i cs hf
            injection h with h; subst h
            have hz : i.zero ≠ [] := fun e => by rw [e] at h1; cases h1
            have hp' := iparts_eq (env := env) (fun s hz => hs s (by rw [ho]; simpa [Op.operands] using hz)) hp
            exact ⟨_, grd_build (ps := ps.toList) hT (by rw [ho]) ht hd hz hp' hf⟩
          · cases h
        · cases h
      · rename_i n e z hd
        split at h
        · rename_i vs hp
          replace h := bsel_f h; obtain ⟨h1, h⟩ := h
          split at h
          · rename_i cs hf
            injection h with h; subst h
            have hz : i.zero ≠ [] := fun e => by rw [e] at h1; cases h1
            have hp' := iparts_eq (env := env) (fun s hz => hs s (by rw [ho]; simpa [Op.operands] using hz)) hp
            exact ⟨_, grd_buildA (ps := ps.toList) hT (by rw [ho]) ht hd hz hp' hf⟩
          · cases h
        · cases h
      · cases h
    · cases h
  case makeFunc fn a b =>
    split at h
    · rename_i vs h1
      split at h
      · rename_i ws h2
        injection h with h; subst h
        have e1 := iargs_eq (env := env) (fun s hz => hs s (by rw [ho]; simp only [Op.operands, Array.toList_append, List.flatMap_append, List.mem_append]; exact .inl hz)) h1
        have e2 := iargs_eq (env := env) (fun s hz => hs s (by rw [ho]; simp only [Op.operands, Array.toList_append, List.flatMap_append, List.mem_append]; exact .inr hz)) h2
        refine ⟨[], .pure fun μ N ac he => ⟨.func fn (a.map ac.eval) (b.map ac.eval), .func fn ?_ ?_, fun w => by simp [execOp, ho, Instr.makeFunc]⟩⟩
        · simpa using gargs_real he e1
        · simpa using gargs_real he e2
      · cases h
    · cases h
  case call c =>
    obtain ⟨callee, args, ts⟩ := c
    simp only at h
    split at h
    · rename_i b
      unfold ibuiltin at h
      split at h
      · rename_i x hxs
        obtain rfl : args = #[x] := by apply Array.toList_inj.1; simpa using hxs
        split at h
        · split at h
          · rename_i u hu
            have hx := opd_geval (env := env) (fun s hz => hs s (by rw [ho]; simp [Op.operands, Call.operands, hz])) hu
            unfold ilen at h
            split at h
            · rename_i t l hts
              have hts' : ts[0]? = some t := by rw [← Array.getElem?_toList, hts]; rfl
              split at h
              · rename_i i ht
                split at h
                · rename_i hd
                  split at h
                  · injection h with h; subst h
                    exact ⟨_, grd_len hT ho hts' ht hd hx⟩
                  · cases h
                · rename_i hd
                  split at h
                  · injection h with h; subst h
                    exact ⟨_, grd_lenS hT ho hts' ht hd hx⟩
                  · cases h
                · cases h
              · cases h
            · cases h
          · cases h
        · cases h
      · rename_i x y hxs
        obtain rfl : args = #[x, y] := by apply Array.toList_inj.1; simpa using hxs
        split at h
        · rename_i k a hu
          split at h
          · rename_i k' c' hv
            have hx := opd_geval (env := env) (fun s hz => hs s (by rw [ho]; simp [Op.operands, Call.operands, hz])) hu
            have hy := opd_geval (env := env) (fun s hz => hs s (by rw [ho]; simp [Op.operands, Call.operands, hz])) hv
            split at h
            · replace h := bsel_t h; obtain ⟨h1, h⟩ := h
              obtain rfl := kind_t h1
              injection h with h; subst h
              exact ⟨_, grd_max ho hx hy⟩
            · replace h := bsel_t h; obtain ⟨h1, h⟩ := h
              obtain rfl := kind_t h1
              injection h with h; subst h
              exact ⟨_, grd_min ho hx hy⟩
            · cases h
          · cases h
        · cases h
      · cases h
    · cases h
end
end Go.Proofs.Ytcbngjpihcemiaa
