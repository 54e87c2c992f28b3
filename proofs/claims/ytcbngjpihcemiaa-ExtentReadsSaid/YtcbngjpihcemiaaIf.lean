/- The quick heap: what writes, or makes, does so. -/
import Derived.Test.YtcbngjpihcemiaaIe
namespace Go.Proofs.Ytcbngjpihcemiaa
open Go.RowKit

theorem FB.abs_mk (t : TypeId) (z n : Nat) (c : Tr Value) (d : Value) (rw : Bool) : FB.abs ⟨t, z, n, c, d, rw⟩ = ⟨t, z, FB.cells ⟨t, z, n, c, d, rw⟩, rw⟩ := rfl
theorem FB.grow_cells (b : FB) (e z k : Nat) (news : List Value) (hk : k ≤ b.n) (hm : k + news.length ≤ trMax) : FB.cells ⟨e, z, k + news.length, putsT news k b.c, b.d, true⟩ = b.cells.take k ++ news := by
  have h := FB.puts_cells news ⟨e, z, k + news.length, b.c, b.d, true⟩ k (Nat.le_refl _) hm
  simp only at h
  rw [h]
  unfold splice
  have h1 : (FB.cells ⟨e, z, k + news.length, b.c, b.d, true⟩).take k = b.cells.take k := by
    apply List.ext_getElem?
    intro i
    rw [List.getElem?_take, List.getElem?_take]
    by_cases hi : i < k
    · rw [if_pos hi, if_pos hi, FB.cells_get _ (by simp only; omega), FB.cells_get _ (by omega)]
      rfl
    · rw [if_neg hi, if_neg hi]
  rw [h1, List.drop_eq_nil_of_le (by simp), List.append_nil]
theorem allOne_all : ∀ (l : List Value), allOne l = l.all (·.oneCell')
  | [] => rfl
  | v :: l => by
    rw [allOne, List.all_cons, ← allOne_all l]
    have : oneB v = v.oneCell' := by cases v <;> rfl
    rw [this]
    cases v.oneCell' <;> rfl
section
variable {P : Program} {T : Tab} {C : Ctx} {o : Oper} {env : Env} {E : Tr Value} {H : PH} {x y : Operand} {t xt : TypeId} {u v w : Value} {β : Type} {r : β}
theorem pushV_t {b : FB} {K : Nat → PH → Option β} (h : pushV H b K = some r) : H.n ≤ 1000000000 ∧ K H.n ⟨H.n + 1, Tr.put 64 H.t H.n (some b)⟩ = some r := by
  unfold pushV at h
  replace h := bsel_t h; obtain ⟨h1, h⟩ := h
  rw [PH.push_eq] at h
  exact ⟨ble_le h1, h⟩
theorem GOp.to {v v' : Value} {X X' G : Hp} (h : GOp P C o env G (fun u Y => u = v ∧ Y = X)) (e1 : v = v') (e2 : X = X') : GOp P C o env G (fun u Y => u = v' ∧ Y = X') := by
  subst e1 e2
  exact h
/-- What is told of an operation. -/
def IOk (P : Program) (C : Ctx) (o : Oper) (env : Env) (H : PH) (K : Value → PH → Option β) (r : β) : Prop := ∃ v H', GOp P C o env H.abs (fun u X => u = v ∧ X = H'.abs) ∧ K v H' = some r ∧ Mono H H'
/-- What is there may be written. -/
def CL (C : Ctx) (H : PH) : Prop := C.n0 ≤ H.n ∧ ∀ i b, H.at i = some b → C.may i
theorem CL.mono {H' : PH} (h : CL C H) (m : Mono H H') : CL C H' := ⟨Nat.le_trans h.1 m.len, fun i b hb => by
  rcases Nat.lt_or_ge i H.n with q | q
  · obtain ⟨b2, hb2⟩ := m.old i b q hb
    exact h.2 i b2 hb2
  · exact .inr (Nat.le_trans h.1 q)⟩
theorem CL.all (H : PH) : CL ⟨[], 0⟩ H := ⟨Nat.zero_le _, fun i _ _ => .inr (Nat.zero_le i)⟩
theorem pushed {b : FB} {K : Value → PH → Option β} {vf : Nat → Value} (h : pushV H b (fun id H' => K (vf id) H') = some r) (hg : GOp P C o env H.abs (fun u X => u = vf H.abs.length ∧ X = H.abs.push b.abs)) : IOk P C o env H K r := by
  obtain ⟨h1, h2⟩ := pushV_t h
  refine ⟨_, _, hg.to (by rw [PH.abs_len]) ?_, h2, mono_push b (by unfold trMax; omega)⟩
  exact (PH.abs_push b (by unfold trMax; omega)).symm
theorem isrc_sound {z m : Nat} {zr news : List Value} (hz : z = zr.length) (hy : geval env y = some w) (h : isrc T H xt z zr w = some (m, news)) : GSrc T env H.abs y xt z zr m news ∧ news.length = m * z := by
  unfold isrc at h
  split at h
  · rename_i i ht
    split at h
    · rename_i hd
      split at h
      · injection h with h
        injection h with h1 h2
        subst h1 h2
        exact ⟨.nil ht hd hy, by simp⟩
      · rename_i k off m' c
        split at h
        · rename_i b hb
          replace h := bsel_t h; obtain ⟨h1, h⟩ := h
          injection h with h
          injection h with h2 h3
          subst h2 h3
          replace h1 := ble_le h1
          rw [FB.run_eq _ _ _ h1]
          refine ⟨.slice (b := b.abs) ht hd hy (PH.abs_at hb) (by simpa [FB.abs] using h1), ?_⟩
          rw [List.length_take, List.length_drop, FB.cells_len]
          omega
        · cases h
      · cases h
    · rename_i hd
      split at h
      · rename_i s
        replace h := bsel_t h; obtain ⟨h1, h⟩ := h
        obtain rfl := Nat.eq_of_beq_eq_true h1
        injection h with h
        injection h with h2 h3
        subst h2 h3
        have e : s.data.toList.length = s.size := Array.length_toList
        have e2 : (vb s.data.toList).length = s.data.toList.length * 1 := by rw [vb_length, Nat.mul_one]
        rw [e] at e2 ⊢
        exact ⟨.str rfl ht hd hy, e2⟩
      · cases h
    · rename_i hd
      split at h
      · injection h with h
        injection h with h2 h3
        subst h2 h3
        exact ⟨.zeros ht hd hy, by rw [gmade_len, hz]⟩
      · cases h
    · cases h
  · cases h
theorem iapp_sound (hT : T.ok P) (hC : CL C H) {K : Value → PH → Option β} (ho : o.op = .call { callee := .builtin .append, args := #[x, y], argTypes := #[t, xt] }) (hx : geval env x = some u) (hy : geval env y = some v) (h : iapp T H t xt u v K = some r) : IOk P C o env H K r := by
  unfold iapp at h
  split at h
  · rename_i i ht
    split at h
    · rename_i e z by_ zr hd
      have hzr : z = zr.length := by obtain ⟨_, ti, _, q3, _, q5, _⟩ := Tab.slice hT ht hd; exact q5
      split at h
      · rename_i m news hsrc
        obtain ⟨hsrc, hnl⟩ := isrc_sound hzr hy hsrc
        rw [fN_eq] at h
        split at h
        · replace h := bsel_c h; rcases h with ⟨h1, h⟩ | ⟨h1, h⟩
          · obtain rfl := Nat.eq_of_beq_eq_true h1
            exact ⟨_, _, gop_app_00 hT ho ht hd hx hsrc, h, .refl _⟩
          · replace h := bsel_t h; obtain ⟨h2, h⟩ := h
            replace h2 := and_t h2; obtain ⟨h2, h5⟩ := h2
            replace h2 := and_t h2; obtain ⟨h2, h4⟩ := h2
            replace h2 := and_t h2; obtain ⟨h2, h3⟩ := h2
            replace h2 := ble_le h2
            replace h3 := ble_le h3
            replace h4 := ble_le h4
            replace h5 := ble_le h5
            have hm0 : 0 < m := by
              rcases Nat.eq_zero_or_pos m with e | e
              · subst e; cases h1
              · exact e
            rw [FB.new_eq] at h
            refine pushed (vf := fun id => .slice (some ⟨id, 0, none⟩) m capU) h ?_
            rw [FB.new_abs _ _ _ (by unfold trMax; omega)]
            exact gop_app_nil hT ho ht hd h2 hx hsrc hnl hm0 h3 h5
        · rename_i j off n c
          split at h
          · rename_i b hb
            have hjl := (PH.at_lt hb).1
            replace h := bsel_t h; obtain ⟨h2, h⟩ := h
            replace h2 := and_t h2; obtain ⟨h2, h5⟩ := h2
            replace h2 := and_t h2; obtain ⟨h2, h4⟩ := h2
            replace h2 := and_t h2; obtain ⟨h2, h3⟩ := h2
            replace h2 := ble_le h2
            replace h3 := ble_le h3
            replace h4 := ble_le h4
            replace h5 := ble_le h5
            have hsum : (n + m) * z = n * z + m * z := Nat.add_mul _ _ _
            replace h := bsel_c h; rcases h with ⟨hm0, h⟩ | ⟨_, h⟩
            · obtain rfl := Nat.eq_of_beq_eq_true hm0
              exact ⟨_, _, gop_app_zero hT ho ht hd h2 hx hsrc hnl h3 h4, h, .refl _⟩
            replace h := bsel_c h; rcases h with ⟨hc, h⟩ | ⟨hc, h⟩
            · replace hc := ble_le hc
              replace h := bsel_t h; obtain ⟨g1, h⟩ := h
              replace g1 := and_t g1; obtain ⟨g1, g4⟩ := g1
              replace g1 := and_t g1; obtain ⟨g1, g3⟩ := g1
              replace g1 := and_t g1; obtain ⟨g1, g2⟩ := g1
              replace g2 := Nat.eq_of_beq_eq_true g2
              replace g3 := ble_le g3
              replace g4 := ble_le g4
              have hop := gop_app_own (H := H.abs) (C := C) hT ho ht hd h2 hx hc (PH.abs_at hb) g1 g2 (hC.2 j _ hb) (by simpa [FB.abs] using g3) g4 hsrc hnl h3 h4
              replace h := bsel_c h; rcases h with ⟨h0, h⟩ | ⟨_, h⟩
              · obtain rfl := Nat.eq_of_beq_eq_true h0
                rw [FB.puts_eq, fN_eq, fN_eq, PH.kill_eq] at h
                obtain ⟨k1, k2⟩ := pushV_t h
                simp only at k1 k2
                refine ⟨_, _, hop.to (by rw [PH.abs_len]) ?_, k2, (mono_kill (by unfold trMax; omega)).trans (mono_push (H := ⟨H.n, Tr.put 64 H.t j none⟩) _ (by unfold trMax; simp only; omega))⟩
                have e1 := PH.abs_push (h := ⟨H.n, Tr.put 64 H.t j none⟩) ⟨e, z, n * z + m * z, putsT news (n * z) b.c, b.d, true⟩ (by unfold trMax; simp only; omega)
                simp only at e1
                rw [e1, PH.abs_kill (by unfold trMax; omega)]
                congr 1
                have e3 := FB.grow_cells b e z (n * z) news (by omega) (by unfold trMax; omega)
                rw [hnl] at e3
                unfold FB.abs
                simp only
                rw [e3]
                rfl
              · rw [FB.new_eq, fN_eq, PH.kill_eq] at h
                obtain ⟨k1, k2⟩ := pushV_t h
                simp only at k1 k2
                refine ⟨_, _, hop.to (by rw [PH.abs_len]) ?_, k2, (mono_kill (by unfold trMax; omega)).trans (mono_push (H := ⟨H.n, Tr.put 64 H.t j none⟩) _ (by unfold trMax; simp only; omega))⟩
                have hrl : (b.run off (n * z)).length = n * z := by
                  rw [FB.run_eq _ _ _ g3, List.length_take, List.length_drop, FB.cells_len]
                  omega
                have e1 := PH.abs_push (h := ⟨H.n, Tr.put 64 H.t j none⟩) ⟨e, z, (b.run off (n * z) ++ news).length, putsT (b.run off (n * z) ++ news) 0 .e, undef, true⟩ (by unfold trMax; simp only; omega)
                simp only at e1
                rw [e1, PH.abs_kill (by unfold trMax; omega), FB.new_abs _ _ _ (by unfold trMax; rw [List.length_append]; omega), FB.run_eq _ _ _ g3]
                rfl
            · have hc : c < capU := by
                rcases Nat.lt_or_ge c capU with q | q
                · exact q
                · rw [ble_t q] at hc; cases hc
              replace h := bsel_c h; rcases h with ⟨hr, h⟩ | ⟨hr, h⟩
              · replace hr := ble_le hr
                replace h := bsel_t h; obtain ⟨g1, h⟩ := h
                replace g1 := and_t g1; obtain ⟨g1, g5⟩ := g1
                replace g1 := and_t g1; obtain ⟨g1, g4⟩ := g1
                replace g1 := and_t g1; obtain ⟨g1, g3⟩ := g1
                replace g1 := and_t g1; obtain ⟨g1, g2⟩ := g1
                replace g2 := ble_le g2
                replace g3 := ble_le g3
                replace g4 := ble_le g4
                replace g5 := ble_le g5
                rw [FB.puts_eq, fN_eq, PH.put_eq] at h
                have hop := gop_app_room (H := H.abs) (C := C) hT ho ht hd h2 hx hc hr g2 (PH.abs_at hb) g1 (hC.2 j _ hb) (by simpa [FB.abs] using g3) hsrc hnl h3 h4
                refine ⟨_, _, hop.to rfl ?_, h, mono_put _ hb (by unfold trMax; omega)⟩
                rw [PH.abs_put _ (by unfold trMax; omega)]
                congr 1
                have hmul : (n + m) * z ≤ c * z := Nat.mul_le_mul_right _ hr
                have := FB.puts_cells news b (off + n * z) (by omega) (by unfold trMax; omega)
                unfold FB.abs
                simp only
                rw [this]
              · have hr : c < n + m := by
                  rcases Nat.lt_or_ge c (n + m) with q | q
                  · exact q
                  · rw [ble_t q] at hr; cases hr
                replace h := bsel_t h; obtain ⟨g1, h⟩ := h
                replace g1 := ble_le g1
                rw [FB.new_eq, fN_eq] at h
                have hrl : (b.run off (n * z)).length = n * z := by
                  rw [FB.run_eq _ _ _ g1, List.length_take, List.length_drop, FB.cells_len]
                  omega
                refine pushed (vf := fun id => .slice (some ⟨id, 0, none⟩) (n + m) capU) h ?_
                rw [FB.new_abs _ _ _ (by unfold trMax; rw [List.length_append]; omega), FB.run_eq _ _ _ g1]
                exact gop_app_full hT ho ht hd h2 hx hc hr (PH.abs_at hb) (by simpa [FB.abs] using g1) hsrc hnl h3 h4
          · cases h
        · cases h
      · cases h
    · cases h
  · cases h
theorem istore_sound (hT : T.ok P) (hC : CL C H) {K : Value → PH → Option β} (ho : o.op = .store t x y) (hx : geval env x = some u) (hy : geval env y = some v) (h : istore T H t u v K = some r) : IOk P C o env H K r := by
  unfold istore at h
  split at h
  · rename_i j off
    split at h
    · rename_i b hb
      split at h
      · rename_i i ht
        replace h := bsel_t h; obtain ⟨g1, h⟩ := h
        replace g1 := and_t g1; obtain ⟨g1, g3⟩ := g1
        replace g1 := and_t g1; obtain ⟨g1, g2⟩ := g1
        replace g2 := ble_le g2
        replace g3 := ble_le g3
        split at h
        · rename_i cs
          replace h := bsel_t h; obtain ⟨k1, h⟩ := h
          replace k1 := and_t k1; obtain ⟨k1, k3⟩ := k1
          replace k1 := and_t k1; obtain ⟨k1, k2⟩ := k1
          replace k1 := Nat.eq_of_beq_eq_true k1
          replace k3 := ble_le k3
          rw [allOne_all] at k2
          rw [FB.puts_eq, PH.put_eq] at h
          refine ⟨_, _, (gop_storeN (H := H.abs) (C := C) hT ho ht (by simpa using k1) hx hy k2 (PH.abs_at hb) g1 (by simpa [FB.abs] using k3) (hC.2 j _ hb)).to rfl ?_, h, mono_put _ hb (by unfold trMax; omega)⟩
          rw [PH.abs_put _ (by unfold trMax; omega)]
          congr 1
          have := FB.puts_cells cs.toList b off k3 (by unfold trMax; omega)
          unfold FB.abs
          simp only
          rw [this]
        · cases h
        · rename_i hna hnt
          replace h := bsel_t h; obtain ⟨k1, h⟩ := h
          replace k1 := and_t k1; obtain ⟨k1, k2⟩ := k1
          replace k1 := Nat.eq_of_beq_eq_true k1
          replace k2 := ble_le k2
          rw [fW_eq, Tr.setK_eq, PH.put_eq] at h
          have h1 : v.oneCell' = true := by
            cases v <;> first | rfl | exact (hna _ rfl).elim | exact (hnt _ rfl).elim
          refine ⟨_, _, (gop_store1 (H := H.abs) (C := C) hT ho ht k1 hx hy h1 (PH.abs_at hb) g1 (by simpa [FB.abs] using Nat.lt_of_succ_le k2) (hC.2 j _ hb)).to rfl ?_, h, mono_put _ hb (by unfold trMax; omega)⟩
          rw [PH.abs_put _ (by unfold trMax; omega)]
          congr 1
          have := FB.set_cells b (o := off) v (by unfold trMax; omega)
          unfold FB.abs
          simp only
          rw [this]
      · cases h
    · cases h
  · cases h
theorem icopy_sound (hT : T.ok P) (hC : CL C H) {K : Value → PH → Option β} (ho : o.op = .call { callee := .builtin .copy, args := #[x, y], argTypes := #[t, xt] }) (hx : geval env x = some u) (hy : geval env y = some v) (h : icopy T H t u v K = some r) : IOk P C o env H K r := by
  unfold icopy at h
  split at h
  · rename_i j off n c
    split at h
    · rename_i k off2 m c2
      split at h
      · rename_i i ht
        split at h
        · rename_i e z by_ zr hd
          split at h
          · rename_i b hb
            split at h
            · rename_i b2 hb2
              rw [fN_eq] at h
              replace h := bsel_t h; obtain ⟨g1, h⟩ := h
              replace g1 := and_t g1; obtain ⟨g1, g5⟩ := g1
              replace g1 := and_t g1; obtain ⟨g1, g4⟩ := g1
              replace g1 := and_t g1; obtain ⟨g1, g3⟩ := g1
              replace g1 := and_t g1; obtain ⟨g1, g2⟩ := g1
              replace g2 := ble_le g2
              replace g3 := ble_le g3
              replace g4 := ble_le g4
              replace g5 := ble_le g5
              rw [FB.puts_eq, PH.put_eq] at h
              have hq1 : min m n * z ≤ m * z := Nat.mul_le_mul_right _ (Nat.min_le_left _ _)
              have hq2 : min m n * z ≤ n * z := Nat.mul_le_mul_right _ (Nat.min_le_right _ _)
              have hrun := FB.run_eq b2 (min m n * z) off2 (by omega)
              rw [hrun] at h
              have hop := gop_copy (H := H.abs) (C := C) hT ho ht hd hx (PH.abs_at hb) g1 (hC.2 j _ hb) (by simpa [FB.abs] using g2) hy (PH.abs_at hb2) (by simpa [FB.abs] using g3)
              refine ⟨_, _, hop.to rfl ?_, h, mono_put _ hb (by unfold trMax; omega)⟩
              rw [PH.abs_put _ (by unfold trMax; omega)]
              congr 1
              have hl : ((b2.cells.drop off2).take (min m n * z)).length = min m n * z := by
                rw [List.length_take, List.length_drop, FB.cells_len]
                omega
              have := FB.puts_cells ((b2.cells.drop off2).take (min m n * z)) b off (by omega) (by unfold trMax; omega)
              unfold FB.abs
              simp only
              rw [this]
            · cases h
          · cases h
        · cases h
      · cases h
    · split at h
      · rename_i i ht
        split at h
        · rename_i hd
          exact ⟨_, _, gop_copy0 hT ho ht hd hx hy, h, .refl _⟩
        · cases h
      · cases h
    · cases h
  · cases h
theorem SimH.freeze {μ : Ren} {G : Hp} {w : World} (hs : SimH μ G w) {g : Nat} {rs : Array Value} {t : TypeId} {fz : Nat × Nat} (hg : w.heap[g]? = some (.cells rs t fz)) : SimH μ G (w.freeze ⟨g, rs.size, none⟩ 1) := by
  have hsz : (w.freeze ⟨g, rs.size, none⟩ 1).heap.size = w.heap.size := by simp [World.freeze]
  refine ⟨fun i b hb => ?_, fun i L hL => by rw [hsz]; exact hs.len i L hL, hs.inj⟩
  obtain ⟨L, rs', t', fz', q1, q2, q3, q4, q5, q6, q7⟩ := hs.dom i b hb
  by_cases e : L.g = g
  · rw [e] at q3
    rw [hg] at q3
    injection q3 with q3
    injection q3 with q31 q32 q33
    subst q31 q32 q33
    have hf : ∃ fz2, (w.freeze ⟨g, rs.size, none⟩ 1).heap[L.g]? = some (.cells rs t fz2) ∧ (b.rw = true → FzOk fz2 rs.size) := by
      obtain ⟨lo, hi⟩ := fz
      by_cases e2 : lo = hi
      · exact ⟨(rs.size, rs.size + 1), by rw [e]; simp [World.freeze, Array.getElem?_modify, hg, e2], fun _ => .inr (Nat.le_refl _)⟩
      · refine ⟨(min lo rs.size, max hi (rs.size + 1)), by rw [e]; simp [World.freeze, Array.getElem?_modify, hg, e2], fun hrw => .inr ?_⟩
        rcases q4 hrw with q4 | q4
        · exact absurd q4 e2
        · simp only at q4 ⊢
          omega
    obtain ⟨fz2, h1, h2⟩ := hf
    exact ⟨L, rs, t, fz2, q1, q2, h1, h2, q5, q6, q7⟩
  · exact ⟨L, rs', t', fz', q1, q2, (heap_freeze_ne e).trans q3, q4, q5, q6, q7⟩
/-- Bytes marked as a text's. -/
theorem gop_mark {j off n c e z by_ : Nat} {G : Hp} {b : Blk} {zr : List Value} {i i3 : TyI} (hT : T.ok P) (ho : o.op = .convert t t x) (ht : T t = some i) (hd : i.d = .slice e z by_ zr) (hte : T e = some i3) (hde : i3.d = .int .u8) (hx : geval env x = some (.slice (some ⟨j, off, none⟩) n c)) (hn : 0 < n) (hb : G.at j = some b) (hm : C.may j) :
    GOp P C o env G (fun u G' => u = .slice (some ⟨j, off, none⟩) n c ∧ G' = G) := fun N w0 Fr μ0 μ a w K Q hs he hk => by
  have hv := he.eval hx
  generalize hr : a.eval x = r at hv
  obtain ⟨L, rs, t', fz, d1, d2, d3, d4, d5, d6, d7⟩ := hs.h.dom j b hb
  obtain ⟨q1, _⟩ := Tab.slice hT ht hd
  have q3 := Tab.int hT hte hde
  have hv2 := hv
  cases hv with
  | sl hL hn1 hmm hcc hu ha =>
    rename_i c' a' L2
    rw [d1] at hL
    injection hL with hL
    subst hL
    obtain rfl := ha (by omega)
    have hsh : w.shape? L.g = some (t', rs.size) := by
      unfold World.shape?
      rw [d3]
    have hrun : (execOp a.eval o).run P w = .ok (.value (.slice (some ⟨L.g, L.d + off, none⟩) n c')) (w.freeze ⟨L.g, rs.size, none⟩ 1) := by
      simp [execOp, ho, hr, convert, run_underlying q1, run_underlying q3, markStringish, shape, Sem.run, hsh, freeze]
    unfold Oper.wp
    rw [hrun]
    have hF : Frm w (w.freeze ⟨L.g, rs.size, none⟩ 1) [L.g] := ⟨by simp [World.freeze], by simp [World.freeze], by simp [World.freeze], by simp [World.freeze], fun k _ hk => heap_freeze_ne (by simpa using hk)⟩
    exact hk _ _ _ _ μ ⟨rfl, rfl⟩ (hs.put d1 hm (hs.h.freeze d3) hF rfl) (Ext'.refl μ) hv2
/-- What writes, or makes, does so. -/
theorem iwr_sound (hT : T.ok P) (hC : CL C H) (hs : Sees env E (o.op.operands.toList.flatMap opTmps)) {K : Value → PH → Option β} (h : iwr T E H o.op K = some r) : IOk P C o env H K r := by
  cases ho : o.op <;> rw [ho] at h <;> simp only [iwr] at h <;> try (cases h; done)
  case alloc e =>
    split at h
    · rename_i i ht
      replace h := bsel_f h; obtain ⟨h1, h⟩ := h
      rw [FB.new_eq] at h
      replace h := bsel_t h; obtain ⟨h2, h⟩ := h
      replace h2 := ble_le h2
      refine pushed (vf := fun id => .pointer (some ⟨id, 0, none⟩)) h ?_
      rw [FB.new_abs _ _ _ (by unfold trMax; simp only at h2; omega)]
      exact gop_alloc hT ho ht (fun e => by rw [e] at h1; cases h1)
    · cases h
  case box e x =>
    split at h
    · rename_i v hv
      replace h := bsel_t h; obtain ⟨h1, h⟩ := h
      rw [FB.new_eq] at h
      replace h := bsel_t h; obtain ⟨h2, h⟩ := h
      replace h2 := ble_le h2
      rw [allOne_all] at h1
      refine pushed (vf := fun id => .pointer (some ⟨id, 0, none⟩)) h ?_
      rw [FB.new_abs _ _ _ (by unfold trMax; simp only at h2; omega)]
      exact gop_box ho (opd_geval (fun s hz => hs s (by rw [ho]; simpa [Op.operands] using hz)) hv) h1
    · cases h
  case makeSlice t x y =>
    split at h
    · rename_i i ht
      split at h
      · rename_i e z by_ zr hd
        split at h
        · rename_i kl l hl
          split at h
          · rename_i kc c hc
            replace h := bsel_t h; obtain ⟨g1, h⟩ := h
            replace g1 := and_t g1; obtain ⟨g1, g4⟩ := g1
            replace g1 := and_t g1; obtain ⟨g1, g3⟩ := g1
            replace g1 := and_t g1; obtain ⟨g1, g2⟩ := g1
            replace g1 := ble_le g1
            replace g2 := ble_le g2
            replace g3 := ble_le g3
            replace g4 := ble_le g4
            have hzr : z = zr.length := by obtain ⟨_, ti, _, q3, _, q5, _⟩ := Tab.slice hT ht hd; exact q5
            have hop := gop_make (H := H.abs) (C := C) hT ho ht hd (opd_geval (env := env) (fun s hz => hs s (by rw [ho]; simp [Op.operands, hz])) hl) (opd_geval (env := env) (fun s hz => hs s (by rw [ho]; simp [Op.operands, hz])) hc) g1 g2 g3
            split at h
            · rename_i v
              replace h := bsel_t h; obtain ⟨k1, h⟩ := h
              obtain rfl := Nat.eq_of_beq_eq_true k1
              refine pushed (vf := fun id => .slice (some ⟨id, 0, none⟩) l c) h ?_
              rw [FB.zeros_abs]
              exact hop
            · rw [FB.new_eq] at h
              refine pushed (vf := fun id => .slice (some ⟨id, 0, none⟩) l c) h ?_
              rw [FB.new_abs _ _ _ (by rw [gmade_len, ← hzr]; unfold trMax; omega)]
              exact hop
          · cases h
        · cases h
      · cases h
    · cases h
  case buildSlice t len ps =>
    split at h
    · rename_i i ht
      split at h
      · rename_i e z by_ zr hd
        split at h
        · rename_i vs hp
          replace h := bsel_t h; obtain ⟨g1, h⟩ := h
          replace g1 := and_t g1; obtain ⟨g1, g2⟩ := g1
          replace g1 := ble_le g1
          split at h
          · rename_i cs hf
            replace h := bsel_t h; obtain ⟨h1, h⟩ := h
            rw [FB.new_eq] at h
            replace h := bsel_t h; obtain ⟨h2, h⟩ := h
            replace h2 := ble_le h2
            rw [allOne_all] at h1
            refine pushed (vf := fun id => .slice (some ⟨id, 0, none⟩) len len) h ?_
            rw [FB.new_abs _ _ _ (by unfold trMax; simp only at h2; omega)]
            exact gop_buildSlice (ps := ps.toList) hT (by rw [ho]) ht hd (fun e => by rw [e] at g2; cases g2) g1 (iparts_eq (fun s hz => hs s (by rw [ho]; simpa [Op.operands] using hz)) hp) hf h1
          · cases h
        · cases h
      · cases h
    · cases h
  case store t x y =>
    split at h
    · rename_i u hu
      split at h
      · rename_i v hv
        exact istore_sound hT hC ho (opd_geval (fun s hz => hs s (by rw [ho]; simp [Op.operands, hz])) hu) (opd_geval (fun s hz => hs s (by rw [ho]; simp [Op.operands, hz])) hv) h
      · cases h
    · cases h
  case convert s d x =>
    split at h
    · rename_i i ht
      split at h
      · rename_i hd
        split at h
        · rename_i i2 ht2
          split at h
          · rename_i e z by_ zr hd2
            split at h
            · rename_i i3 ht3
              split at h
              · rename_i hd3
                split at h
                · rename_i q hq
                  replace h := bsel_t h; obtain ⟨h1, h⟩ := h
                  replace h1 := ble_le h1
                  rw [FB.new_eq] at h
                  refine pushed (vf := fun id => .slice (some ⟨id, 0, none⟩) q.data.toList.length capU) h ?_
                  have e : q.data.toList.length = q.size := Array.length_toList
                  rw [FB.new_abs _ _ _ (by rw [vb_length]; unfold trMax; omega)]
                  rw [e]
                  exact gop_bytes hT ho ht hd ht2 hd2 ht3 hd3 (opd_geval (fun s hz => hs s (by rw [ho]; simpa [Op.operands] using hz)) hq) (by unfold maxLen; omega)
                · cases h
              · cases h
            · cases h
          · cases h
        · cases h
      · rename_i e z by_ zr hd
        split at h
        · rename_i i3 ht3
          split at h
          · rename_i hd3
            split at h
            · rename_i j off n c hq
              replace h := bsel_t h; obtain ⟨h1, h⟩ := h
              replace h1 := and_t h1; obtain ⟨h1, h2⟩ := h1
              obtain rfl := Nat.eq_of_beq_eq_true h1
              split at h
              · rename_i b hb
                exact ⟨_, _, gop_mark hT ho ht hd ht3 hd3 (opd_geval (fun s hz => hs s (by rw [ho]; simpa [Op.operands] using hz)) hq) (ble_le h2) (PH.abs_at hb) (hC.2 j _ hb), h, .refl _⟩
              · cases h
            · cases h
          · cases h
        · cases h
      · cases h
    · cases h
  case call c =>
    obtain ⟨callee, args, ts⟩ := c
    simp only at h
    split at h
    · rename_i b
      split at h
      · rename_i x y hxs
        obtain rfl : args = #[x, y] := by apply Array.toList_inj.1; simpa using hxs
        split at h
        · rename_i u hu
          split at h
          · rename_i v hv
            have hx := opd_geval (env := env) (fun s hz => hs s (by rw [ho]; simp [Op.operands, Call.operands, hz])) hu
            have hy := opd_geval (env := env) (fun s hz => hs s (by rw [ho]; simp [Op.operands, Call.operands, hz])) hv
            split at h
            · rename_i t xt hts
              obtain rfl : ts = #[t, xt] := by apply Array.toList_inj.1; simpa using hts
              split at h
              · exact iapp_sound hT hC ho hx hy h
              · exact icopy_sound hT hC ho hx hy h
              · cases h
            · cases h
          · cases h
        · cases h
      · cases h
    · cases h
end
end Go.Proofs.Ytcbngjpihcemiaa
