/- Numbers and texts as bytes, on the ghost side. -/
import Derived.Test.YtjlimdiimdihfaaZz1
namespace Go.Proofs.Ytjlimdiimdihfaa
open Go.RowKit

/-- A byte in a row of its own. -/
theorem gsrc_b1 {T : Tab} {env : Env} {H : Hp} {y : Operand} {xt : TypeId} {i : TyI} {e by_ j c : Nat} {zr' zr : List Value} {b : Blk} {u : UInt8} {M : List UInt8} (ht : T xt = some i) (hd : i.d = .slice e 1 by_ zr') (hx : geval env y = some (.slice (some ⟨j, 0, none⟩) 1 c)) (hb : H.at j = some b) (_hz : b.z = 1) (hu : b.cs = [.int .u8 (u.toNat : Int)]) (hM : [u] = M) : GSrc T env H y xt 1 zr 1 (vb M) := by
  subst hM
  have := GSrc.slice (z := 1) (zr := zr) ht hd hx hb (by rw [hu]; simp)
  rw [hu] at this
  exact this
theorem bs_b1 {H : Hp} {j c : Nat} {b : Blk} {u : UInt8} {M : List UInt8} (hb : H.at j = some b) (hz : b.z = 1) (hu : b.cs = [.int .u8 (u.toNat : Int)]) (hM : [u] = M) : BS H (.slice (some ⟨j, 0, none⟩) 1 c) M := by
  subst hM
  exact bs_blk hb hz (by rw [hu]; rfl) rfl (by rw [hu]; simp) (by rw [hu]; rfl)
set_option maxHeartbeats 4000000 in
set_option maxRecDepth 100000 in
set_option linter.unusedSimpArgs false in
theorem g_clip (H : Hp) (p : Option Addr) (n c : Nat) (L : List UInt8) (hb : BS H (.slice p n c) L) : GCalls Try.prog 54 [.slice p n c] [] H fun v H' => v = .slice p n n ∧ H' = H := by
  refine GCalls.of (R := fun v => v = .slice p n n) fun μ w rargs hs hv => ?_
  obtain ⟨rv, rfl, hv2⟩ := vrs_one hv
  cases hb with
  | none =>
    cases hv2
    exact (clip_any none 0 0 w (Nat.le_refl _) (Nat.zero_le _)).mono fun e w' ⟨e1, e2⟩ => ⟨_, _, e1, rfl, .sl0, by subst e2; exact Below.refl _ _⟩
  | some hb hs' hl ho hu =>
    cases hv2 with
    | sl hL hn hm hc hu2 ha =>
      rename_i c' a M
      exact (clip_any (some a) n c' w hn hm).mono fun e w' ⟨e1, e2⟩ => ⟨_, _, e1, rfl, .sl hL (Nat.le_refl _) (by omega) (fun _ => rfl) (fun h => by unfold capU at h; unfold maxLen at hm; omega) (fun h => ha (by omega)), by subst e2; exact Below.refl _ _⟩
theorem bs_recap {H : Hp} {p : Option Addr} {n c : Nat} {L : List UInt8} (h : BS H (.slice p n c) L) : BS H (.slice p n n) L := by
  cases h with
  | none => exact .none
  | some hb hs hl ho hu => exact .some hb hs hl ho hu
theorem grd_quoU {P : Program} {o : Oper} {env : Env} {H : Hp} {x y : Operand} {t yt : TypeId} {a b : Int} (ho : o.op = .binOp .quo t x y yt) (hx : geval env x = some (.int .u64 a)) (hy : geval env y = some (.int .u64 b)) (h0 : 0 < b) (ha : 0 ≤ a ∧ a < 18446744073709551616) : GRd P o env H (.int .u64 (a / b)) [] := by
  have h1 := grd_quo (P := P) (H := H) ho hx hy (by omega)
  rw [Int.tdiv_eq_ediv_of_nonneg ha.1, IntKind.wrap_u64, Int.emod_eq_of_lt (Int.ediv_nonneg ha.1 (Int.le_of_lt h0)) (by have := Int.ediv_le_self b ha.1; omega)] at h1
  exact h1
/-- Bytes, as far as they were put. -/
def putV (p : Option Addr) (n : Nat) (o : Option Nat) (D : List UInt8) : Value := match o with
  | none => .slice p n n
  | some id => .slice (some ⟨id, 0, none⟩) D.length capU
def putI (H : Hp) (p : Option Addr) (n : Nat) (B : List UInt8) (o : Option Nat) (D : List UInt8) (H' : Hp) : Prop := match o with
  | none => D = B ∧ BS H' (.slice p n n) B ∧ HExt [] H H'
  | some id => 0 < D.length ∧ H.length ≤ id ∧ H'.at id = some ⟨5, 1, vb D, true⟩ ∧ HExt [] H H'
theorem encs_drop2 {l : List Nat} {k N : Nat} (h : l[k]? = some N) : encs (l.drop k) = enc N ++ encs (l.drop (k + 1)) := by
  obtain ⟨hk, rfl⟩ := List.getElem?_eq_some_iff.1 h
  rw [List.drop_eq_getElem_cons hk, encs_cons]
theorem low_u8 (N : Nat) : IntKind.u8.wrap (N : Int) = ((UInt8.ofNat N).toNat : Int) := by
  rw [IntKind.wrap_u8]
  simp
theorem more_u8 (N : Nat) : bits .or .u8 (IntKind.u8.wrap (N : Int)) 128 = ((UInt8.ofNat (N % 128 + 128)).toNat : Int) := by
  rw [IntKind.wrap_u8, bits_more]
  simp
  omega
theorem shr7 (N : Nat) : (N : Int).fdiv (2 ^ (min (Int.toNat 7) (IntKind.bits .u64))) = ((N / 128 : Nat) : Int) := by
  show (N : Int).fdiv (2 ^ 7) = _
  rw [Int.fdiv_eq_ediv_of_nonneg _ (by decide)]
  simp
set_option maxHeartbeats 4000000 in
set_option maxRecDepth 100000 in
set_option linter.unusedSimpArgs false in
theorem g_put (H : Hp) (p : Option Addr) (n c : Nat) (B : List UInt8) (hb : BS H (.slice p n c) B) (j cm : Nat) (l : List Nat) (t : TypeId) (rw : Bool) (cs : List Value) (hj : H.at j = some ⟨t, 1, cs, rw⟩) (hcs : cs = l.map (fun x : Nat => Value.int .u64 (x : Int))) (hlt : ∀ x ∈ l, x < 18446744073709551616) (hsz : (B ++ encs l).length ≤ 70368744177664) (hl0 : 0 < l.length) (hl1 : l.length ≤ 70368744177664) :
    GCalls Try.prog 41 [.slice p n c, .slice (some ⟨j, 0, none⟩) l.length cm] [] H fun v H' => (∃ id, v = .slice (some ⟨id, 0, none⟩) (B ++ encs l).length capU ∧ H.length ≤ id ∧ H'.at id = some ⟨5, 1, vb (B ++ encs l), true⟩) ∧ HExt [] H H' := by
  subst hcs
  have hn := hb.len
  subst hn
  have hjl := Hp.at_lt hj
  have hb2 := bs_recap hb
  generalize hT : B ++ encs l = T at hsz ⊢
  have hBT : B.length ≤ T.length := by rw [← hT, List.length_append]; omega
  refine GCalls.body tab_is Try.func41 rfl Try.results41 Try.ntmps41 (by simp) ?_ ?_
  · first | (intro _ h; cases h; done) | (simp; done) | (simp; omega) | (intro i hi; simp at hi; rcases hi with rfl | rfl <;> omega) | (intro i hi; simp at hi; rcases hi with rfl | rfl | rfl <;> omega)
  focus
    refine GWP.seq ?_
    refine GWP.region ?_
    refine GOps.r rfl rfl rfl rfl (grd_assign rfl rfl) ?_
    refine GOps.nil ?_
    refine GWP.seq ?_
    refine GWP.region ?_
    refine GOps.r rfl rfl rfl rfl (grd_move rfl rfl) ?_
    refine GOps.w1 rfl rfl rfl rfl (gop_call rfl Try.call54 rfl ?_ (g_clip H p _ c B hb)) ?_
    · intro _ h; cases h; done
    refine GOps.r rfl rfl rfl rfl (grd_assign rfl rfl) ?_
    refine GOps.nil ?_
    refine GWP.seq ?_
    refine GWP.seq ?_
    refine GWP.region ?_
    refine GOps.r rfl rfl rfl rfl (grd_move rfl rfl) ?_
    refine GOps.r rfl rfl rfl rfl (grd_len tab_is rfl rfl rfl rfl rfl) ?_
    refine GOps.r rfl rfl rfl rfl (grd_move rfl rfl) ?_
    refine GOps.nil ?_
    refine GWP.block ?_
  refine GWP.loop (α := Option Nat × List UInt8 × Nat) (fun x => [(0, putV p B.length x.1 x.2.1), (9, .slice (some ⟨j, 0, none⟩) l.length cm), (10, .int .i64 (l.length : Int)), (11, .int .i64 (x.2.2 : Int))]) (fun x H' => x.2.2 ≤ l.length ∧ x.2.1 ++ encs (l.drop x.2.2) = T ∧ (x.1 = none → x.2.2 = 0) ∧ putI H p B.length B x.1 x.2.1 H') (fun x => l.length - x.2.2) (none, B, 0) ?_ ⟨Nat.zero_le _, hT, fun _ => rfl, rfl, hb2, HExt.refl _ _⟩ ?_
  ·
    repeat (first | exact Env.sub_nil | refine Env.sub_cons rfl ?_ | (refine Env.sub_cons (congrArg some ?_) ?_; (· first | rfl | go_num | (simp; done))))
  rintro ⟨o, D, k⟩ H' ⟨hk, hD, ho, hI⟩
  simp only at hk hD ho hI ⊢
  by_cases hkl : k < l.length
  · obtain ⟨N, hN⟩ : ∃ N, l[k]? = some N := ⟨_, List.getElem?_eq_getElem hkl⟩
    have hN64 := hlt N (List.mem_of_getElem? hN)
    have hcell : (l.map (fun x : Nat => Value.int .u64 (x : Int)))[0 + k]? = some (.int .u64 (N : Int)) := by rw [Nat.zero_add, List.getElem?_map, hN]; rfl
    have hx : HExt [] H H' := by
      cases o with
      | none => exact hI.2.2
      | some id => exact hI.2.2.2
    have hxl := hx.len
    have hj' : H'.at j = some ⟨t, 1, l.map (fun x : Nat => Value.int .u64 (x : Int)), rw⟩ := (hx.eq j hjl (by intro h; cases h)).trans hj
    rw [encs_drop2 hN] at hD
    focus
      refine GWP.seq ?_
      refine GWP.region ?_
      refine GOps.r rfl rfl rfl rfl (grd_lss rfl rfl rfl) ?_
      refine GOps.nil ?_
      refine GWP.seq ?_
      refine GWP.cond_t rfl ?_ ?_
      · exact decide_eq_true (by omega)
      refine GWP.skip ?_
      refine GWP.seq ?_
      refine GWP.block ?_
      refine GWP.seq ?_
      refine GWP.region ?_
      refine GOps.r rfl rfl rfl rfl (grd_indexAddr1 tab_is rfl rfl rfl rfl rfl ?_) ?_
      · omega
      focus
        refine GOps.r rfl rfl rfl rfl (grd_load1 (b := ?_) (v := ?_) tab_is rfl rfl rfl rfl ?_ ?_) ?_
        rotate_left 2
        · assumption
        · assumption
      refine GOps.r rfl rfl rfl rfl (grd_assign rfl rfl) ?_
      refine GOps.nil ?_
      refine GWP.seq ?_
      refine GWP.block ?_
    refine GWP.loop (α := Option Nat × List UInt8 × Nat) (fun x => [(0, putV p B.length x.1 x.2.1), (6, .int .u64 (x.2.2 : Int)), (9, .slice (some ⟨j, 0, none⟩) l.length cm), (10, .int .i64 (l.length : Int)), (11, .int .i64 (k : Int))]) (fun x H2 => x.2.1 ++ (enc x.2.2 ++ encs (l.drop (k + 1))) = T ∧ x.2.2 < 18446744073709551616 ∧ putI H p B.length B x.1 x.2.1 H2) (fun x => x.2.2) (o, D, N) ?_ ⟨hD, hN64, hI⟩ ?_
    ·
      repeat (first | exact Env.sub_nil | refine Env.sub_cons rfl ?_ | (refine Env.sub_cons (congrArg some ?_) ?_; (· first | rfl | go_num | (simp; done))))
    rintro ⟨o2, D2, N2⟩ H2 ⟨hD2, hN2, hI2⟩
    simp only at hD2 hN2 hI2 ⊢
    have hlo := low_u8 N2
    have hmo := more_u8 N2
    have hdl : D2.length + 1 ≤ T.length := by
      have := enc_pos N2
      rw [← hD2, List.length_append, List.length_append]
      omega
    by_cases h128 : 128 ≤ N2
    · rw [enc_ge (by omega)] at hD2
      cases o2 with
      | none =>
        obtain ⟨rfl, hb3, hx3⟩ := hI2
        have hl3 := hx3.len
        simp only [putV]
        focus
          refine GWP.seq ?_
          refine GWP.seq ?_
          refine GWP.region ?_
          refine GOps.r rfl rfl rfl rfl (grd_move rfl rfl) ?_
          refine GOps.r rfl rfl rfl rfl (grd_geq rfl rfl rfl) ?_
          refine GOps.nil ?_
          refine GWP.cond_t rfl ?_ ?_
          · exact decide_eq_true (by omega)
          refine GWP.skip ?_
          refine GWP.seq ?_
          refine GWP.block ?_
          refine GWP.region ?_
          refine GOps.r rfl rfl rfl rfl (grd_move rfl rfl) ?_
          refine GOps.r rfl rfl rfl rfl (grd_move rfl rfl) ?_
          refine GOps.r rfl rfl rfl rfl (grd_conv tab_is rfl rfl rfl rfl rfl) ?_
          refine GOps.r rfl rfl rfl rfl (grd_bits .or (.inr (.inl rfl)) rfl rfl rfl) ?_
          focus
            refine GOps.w1 rfl rfl rfl rfl (gop_lit (id := ?_) (cs := ?_) ?_ tab_is rfl rfl rfl ?_ ?_ rfl ?_ ?_) ?_
            rotate_left 2
            · rfl
            · decide
            · decide
            · simp [gfill, gsets, Value.cells]; rfl
            · rfl
          focus
            refine GOps.w1 rfl rfl rfl rfl (gop_fullB (id := ?_) (L := ?_) (M := ?_) (K := ?_) ?_ tab_is rfl rfl rfl rfl ?_ ?_ ?_ (gsrc_b1 (b := ?_) (u := ?_) rfl rfl rfl ?_ ?_ ?_ ?_) ?_ ?_ ?_ ?_) ?_
            rotate_left 4
            · simp; rfl
            focus
              refine BS.ext (by assumption) ?_
              refine HExt.push ?_
              · exact HExt.refl _ _
            · unfold capU; omega
            · omega
            rotate_left 2
            · exact Hp.at_push_eq
            · rfl
            · exact congrArg (fun z : Int => [Value.int .u8 z]) (by assumption)
            · rfl
            · rfl
            · rfl
            · omega
            · omega
          refine GOps.r rfl rfl rfl rfl (grd_assign rfl rfl) ?_
          refine GOps.nil ?_
          refine GWP.region ?_
          refine GOps.r rfl rfl rfl rfl (grd_move rfl rfl) ?_
          refine GOps.r rfl rfl rfl rfl (grd_shr rfl rfl rfl ?_) ?_
          · omega
          refine GOps.r rfl rfl rfl rfl (grd_assign rfl rfl) ?_
          refine GOps.nil ?_
        simp only [shr7]
        refine ⟨(some (H2.length + 1), D2 ++ [UInt8.ofNat (N2 % 128 + 128)], N2 / 128), ?_, ⟨by simpa using hD2, by simp only; omega, by simp, by omega, ?_, ?_⟩, by simp only; omega⟩
        · simp only [putV, List.length_append, List.length_singleton]
          repeat (first | exact Env.sub_nil | refine Env.sub_cons rfl ?_ | (refine Env.sub_cons (congrArg some ?_) ?_; (· first | rfl | go_num | (simp; done))))
        · ((repeat (first | (refine (killO_ne ?_).trans ?_; (· (intro hq; first | (have := lt_io _ hq; first | omega | (simp; omega)) | (have := lt_ig _ hq; first | omega | (simp; omega))))) | (refine (Hp.at_put_ne ?_).trans ?_; (· (first | assumption | (exact Ne.symm (by assumption)) | omega | (simp; done) | (simp; omega)))) | (refine (Hp.at_push_lt ?_).trans ?_; (· (first | assumption | omega | (simp; done) | (simp; omega)))) | (refine (Hp.at_kill_ne ?_).trans ?_; (· (first | assumption | (exact Ne.symm (by assumption)) | omega | (simp; done) | (simp; omega)))) | (refine (HExt.eq (by assumption) _ ?_ ?_).trans ?_; (· (first | assumption | omega | (simp; done) | (simp; omega))); (· (first | (intro h; cases h; done) | (simp; done) | (simp; omega)))))); (first | assumption | exact Hp.at_push_eq | (refine Hp.at_push_id ?_; (· (first | rfl | assumption | omega | (simp; done) | (simp; omega)))) | (refine Hp.at_put_eq ?_; (· (first | assumption | omega | (simp; done) | (simp; omega)))) | (refine Hp.at_put_id ?_ ?_; (· (first | rfl | assumption | omega | (simp; done) | (simp; omega))); (· (first | assumption | omega | (simp; done) | (simp; omega))))))
        ·
          repeat (first | exact HExt.refl _ _ | assumption | refine HExt.push ?_ | (refine HExt.put ?_ ?_; rotate_left 1; (· first | (refine .inr ?_; first | omega | (simp; done) | (simp; omega)) | (refine .inl ?_; simp))) | (refine HExt.kill ?_ ?_; rotate_left 1; (· first | (refine .inr ?_; first | omega | (simp; done) | (simp; omega)) | (refine .inl ?_; simp))) | (refine HExt.tr ?_ (by assumption) ?_; rotate_left 1; (· first | (intro _ h; cases h; done) | (simp; done) | (simp; omega))))
      | some id =>
        obtain ⟨hd0, hid, hat, hx3⟩ := hI2
        have hl3 := hx3.len
        have hidl := Hp.at_lt hat
        simp only [putV]
        focus
          refine GWP.seq ?_
          refine GWP.seq ?_
          refine GWP.region ?_
          refine GOps.r rfl rfl rfl rfl (grd_move rfl rfl) ?_
          refine GOps.r rfl rfl rfl rfl (grd_geq rfl rfl rfl) ?_
          refine GOps.nil ?_
          refine GWP.cond_t rfl ?_ ?_
          · exact decide_eq_true (by omega)
          refine GWP.skip ?_
          refine GWP.seq ?_
          refine GWP.block ?_
          refine GWP.region ?_
          refine GOps.r rfl rfl rfl rfl (grd_move rfl rfl) ?_
          refine GOps.r rfl rfl rfl rfl (grd_move rfl rfl) ?_
          refine GOps.r rfl rfl rfl rfl (grd_conv tab_is rfl rfl rfl rfl rfl) ?_
          refine GOps.r rfl rfl rfl rfl (grd_bits .or (.inr (.inl rfl)) rfl rfl rfl) ?_
          focus
            refine GOps.w1 rfl rfl rfl rfl (gop_lit (id := ?_) (cs := ?_) ?_ tab_is rfl rfl rfl ?_ ?_ rfl ?_ ?_) ?_
            rotate_left 2
            · rfl
            · decide
            · decide
            · simp [gfill, gsets, Value.cells]; rfl
            · rfl
          focus
            refine GOps.w1 rfl rfl rfl rfl (gop_ownB (id := ?_) (b := ?_) (L := ?_) (M := ?_) (K := ?_) ?_ tab_is rfl rfl rfl rfl ?_ ?_ ?_ ?_ ?_ ?_ ?_ (gsrc_b1 (b := ?_) (u := ?_) rfl rfl rfl ?_ ?_ ?_ ?_) ?_ ?_ ?_ ?_) ?_
            rotate_left 5
            · simp; rfl
            refine (Hp.at_push_lt ?_).trans ?_
            · omega
            · assumption
            · rfl
            · rfl
            · rfl
            · rfl
            · omega
            · exact .inr (by omega)
            rotate_left 2
            · exact Hp.at_push_eq
            · rfl
            · exact congrArg (fun z : Int => [Value.int .u8 z]) (by assumption)
            · rfl
            · rfl
            · rfl
            · omega
            · omega
          refine GOps.r rfl rfl rfl rfl (grd_assign rfl rfl) ?_
          refine GOps.nil ?_
          refine GWP.region ?_
          refine GOps.r rfl rfl rfl rfl (grd_move rfl rfl) ?_
          refine GOps.r rfl rfl rfl rfl (grd_shr rfl rfl rfl ?_) ?_
          · omega
          refine GOps.r rfl rfl rfl rfl (grd_assign rfl rfl) ?_
          refine GOps.nil ?_
        simp only [shr7]
        refine ⟨(some (H2.length + 1), D2 ++ [UInt8.ofNat (N2 % 128 + 128)], N2 / 128), ?_, ⟨by simpa using hD2, by simp only; omega, by simp, by omega, ?_, ?_⟩, by simp only; omega⟩
        · simp only [putV, List.length_append, List.length_singleton]
          repeat (first | exact Env.sub_nil | refine Env.sub_cons rfl ?_ | (refine Env.sub_cons (congrArg some ?_) ?_; (· first | rfl | go_num | (simp; done))))
        · ((repeat (first | (refine (killO_ne ?_).trans ?_; (· (intro hq; first | (have := lt_io _ hq; first | omega | (simp; omega)) | (have := lt_ig _ hq; first | omega | (simp; omega))))) | (refine (Hp.at_put_ne ?_).trans ?_; (· (first | assumption | (exact Ne.symm (by assumption)) | omega | (simp; done) | (simp; omega)))) | (refine (Hp.at_push_lt ?_).trans ?_; (· (first | assumption | omega | (simp; done) | (simp; omega)))) | (refine (Hp.at_kill_ne ?_).trans ?_; (· (first | assumption | (exact Ne.symm (by assumption)) | omega | (simp; done) | (simp; omega)))) | (refine (HExt.eq (by assumption) _ ?_ ?_).trans ?_; (· (first | assumption | omega | (simp; done) | (simp; omega))); (· (first | (intro h; cases h; done) | (simp; done) | (simp; omega)))))); (first | assumption | exact Hp.at_push_eq | (refine Hp.at_push_id ?_; (· (first | rfl | assumption | omega | (simp; done) | (simp; omega)))) | (refine Hp.at_put_eq ?_; (· (first | assumption | omega | (simp; done) | (simp; omega)))) | (refine Hp.at_put_id ?_ ?_; (· (first | rfl | assumption | omega | (simp; done) | (simp; omega))); (· (first | assumption | omega | (simp; done) | (simp; omega))))))
        ·
          repeat (first | exact HExt.refl _ _ | assumption | refine HExt.push ?_ | (refine HExt.put ?_ ?_; rotate_left 1; (· first | (refine .inr ?_; first | omega | (simp; done) | (simp; omega)) | (refine .inl ?_; simp))) | (refine HExt.kill ?_ ?_; rotate_left 1; (· first | (refine .inr ?_; first | omega | (simp; done) | (simp; omega)) | (refine .inl ?_; simp))) | (refine HExt.tr ?_ (by assumption) ?_; rotate_left 1; (· first | (intro _ h; cases h; done) | (simp; done) | (simp; omega))))
    · rw [enc_lt (by omega)] at hD2
      rw [wrap_u8_in (by omega)] at hlo
      cases o2 with
      | none =>
        obtain ⟨rfl, hb3, hx3⟩ := hI2
        have hl3 := hx3.len
        simp only [putV]
        focus
          refine GWP.seq ?_
          refine GWP.seq ?_
          refine GWP.region ?_
          refine GOps.r rfl rfl rfl rfl (grd_move rfl rfl) ?_
          refine GOps.r rfl rfl rfl rfl (grd_geq rfl rfl rfl) ?_
          refine GOps.nil ?_
          refine GWP.cond_f rfl ?_ ?_
          · exact decide_eq_false (by omega)
          refine GWP.exit ?_
          refine GWP.region ?_
          refine GOps.r rfl rfl rfl rfl (grd_move rfl rfl) ?_
          refine GOps.r rfl rfl rfl rfl (grd_move rfl rfl) ?_
          refine GOps.r rfl rfl rfl rfl (grd_conv_in tab_is rfl rfl rfl rfl rfl ?_) ?_
          · refine wrap_u8_in ?_; omega
          focus
            refine GOps.w1 rfl rfl rfl rfl (gop_lit (id := ?_) (cs := ?_) ?_ tab_is rfl rfl rfl ?_ ?_ rfl ?_ ?_) ?_
            rotate_left 2
            · rfl
            · decide
            · decide
            · simp [gfill, gsets, Value.cells]; rfl
            · rfl
          focus
            refine GOps.w1 rfl rfl rfl rfl (gop_fullB (id := ?_) (L := ?_) (M := ?_) (K := ?_) ?_ tab_is rfl rfl rfl rfl ?_ ?_ ?_ (gsrc_b1 (b := ?_) (u := ?_) rfl rfl rfl ?_ ?_ ?_ ?_) ?_ ?_ ?_ ?_) ?_
            rotate_left 4
            · simp; rfl
            focus
              refine BS.ext (by assumption) ?_
              refine HExt.push ?_
              · exact HExt.refl _ _
            · unfold capU; omega
            · omega
            rotate_left 2
            · exact Hp.at_push_eq
            · rfl
            · exact congrArg (fun z : Int => [Value.int .u8 z]) (by assumption)
            · rfl
            · rfl
            · rfl
            · omega
            · omega
          refine GOps.r rfl rfl rfl rfl (grd_assign rfl rfl) ?_
          refine GOps.nil ?_
          refine GWP.region ?_
          refine GOps.r rfl rfl rfl rfl (grd_add64 rfl rfl rfl ?_) ?_
          · omega
          refine GOps.r rfl rfl rfl rfl (grd_move rfl rfl) ?_
          refine GOps.nil ?_
        refine ⟨(some (H2.length + 1), D2 ++ [UInt8.ofNat N2], k + 1), ?_, ⟨by simp only; omega, by simpa using hD2, by simp, by simp, by omega, ?_, ?_⟩, by simp only; omega⟩
        · simp only [putV, List.length_append, List.length_singleton]
          repeat (first | exact Env.sub_nil | refine Env.sub_cons rfl ?_ | (refine Env.sub_cons (congrArg some ?_) ?_; (· first | rfl | go_num | (simp; done))))
        · ((repeat (first | (refine (killO_ne ?_).trans ?_; (· (intro hq; first | (have := lt_io _ hq; first | omega | (simp; omega)) | (have := lt_ig _ hq; first | omega | (simp; omega))))) | (refine (Hp.at_put_ne ?_).trans ?_; (· (first | assumption | (exact Ne.symm (by assumption)) | omega | (simp; done) | (simp; omega)))) | (refine (Hp.at_push_lt ?_).trans ?_; (· (first | assumption | omega | (simp; done) | (simp; omega)))) | (refine (Hp.at_kill_ne ?_).trans ?_; (· (first | assumption | (exact Ne.symm (by assumption)) | omega | (simp; done) | (simp; omega)))) | (refine (HExt.eq (by assumption) _ ?_ ?_).trans ?_; (· (first | assumption | omega | (simp; done) | (simp; omega))); (· (first | (intro h; cases h; done) | (simp; done) | (simp; omega)))))); (first | assumption | exact Hp.at_push_eq | (refine Hp.at_push_id ?_; (· (first | rfl | assumption | omega | (simp; done) | (simp; omega)))) | (refine Hp.at_put_eq ?_; (· (first | assumption | omega | (simp; done) | (simp; omega)))) | (refine Hp.at_put_id ?_ ?_; (· (first | rfl | assumption | omega | (simp; done) | (simp; omega))); (· (first | assumption | omega | (simp; done) | (simp; omega))))))
        ·
          repeat (first | exact HExt.refl _ _ | assumption | refine HExt.push ?_ | (refine HExt.put ?_ ?_; rotate_left 1; (· first | (refine .inr ?_; first | omega | (simp; done) | (simp; omega)) | (refine .inl ?_; simp))) | (refine HExt.kill ?_ ?_; rotate_left 1; (· first | (refine .inr ?_; first | omega | (simp; done) | (simp; omega)) | (refine .inl ?_; simp))) | (refine HExt.tr ?_ (by assumption) ?_; rotate_left 1; (· first | (intro _ h; cases h; done) | (simp; done) | (simp; omega))))
      | some id =>
        obtain ⟨hd0, hid, hat, hx3⟩ := hI2
        have hl3 := hx3.len
        have hidl := Hp.at_lt hat
        simp only [putV]
        focus
          refine GWP.seq ?_
          refine GWP.seq ?_
          refine GWP.region ?_
          refine GOps.r rfl rfl rfl rfl (grd_move rfl rfl) ?_
          refine GOps.r rfl rfl rfl rfl (grd_geq rfl rfl rfl) ?_
          refine GOps.nil ?_
          refine GWP.cond_f rfl ?_ ?_
          · exact decide_eq_false (by omega)
          refine GWP.exit ?_
          refine GWP.region ?_
          refine GOps.r rfl rfl rfl rfl (grd_move rfl rfl) ?_
          refine GOps.r rfl rfl rfl rfl (grd_move rfl rfl) ?_
          refine GOps.r rfl rfl rfl rfl (grd_conv_in tab_is rfl rfl rfl rfl rfl ?_) ?_
          · refine wrap_u8_in ?_; omega
          focus
            refine GOps.w1 rfl rfl rfl rfl (gop_lit (id := ?_) (cs := ?_) ?_ tab_is rfl rfl rfl ?_ ?_ rfl ?_ ?_) ?_
            rotate_left 2
            · rfl
            · decide
            · decide
            · simp [gfill, gsets, Value.cells]; rfl
            · rfl
          focus
            refine GOps.w1 rfl rfl rfl rfl (gop_ownB (id := ?_) (b := ?_) (L := ?_) (M := ?_) (K := ?_) ?_ tab_is rfl rfl rfl rfl ?_ ?_ ?_ ?_ ?_ ?_ ?_ (gsrc_b1 (b := ?_) (u := ?_) rfl rfl rfl ?_ ?_ ?_ ?_) ?_ ?_ ?_ ?_) ?_
            rotate_left 5
            · simp; rfl
            refine (Hp.at_push_lt ?_).trans ?_
            · omega
            · assumption
            · rfl
            · rfl
            · rfl
            · rfl
            · omega
            · exact .inr (by omega)
            rotate_left 2
            · exact Hp.at_push_eq
            · rfl
            · exact congrArg (fun z : Int => [Value.int .u8 z]) (by assumption)
            · rfl
            · rfl
            · rfl
            · omega
            · omega
          refine GOps.r rfl rfl rfl rfl (grd_assign rfl rfl) ?_
          refine GOps.nil ?_
          refine GWP.region ?_
          refine GOps.r rfl rfl rfl rfl (grd_add64 rfl rfl rfl ?_) ?_
          · omega
          refine GOps.r rfl rfl rfl rfl (grd_move rfl rfl) ?_
          refine GOps.nil ?_
        refine ⟨(some (H2.length + 1), D2 ++ [UInt8.ofNat N2], k + 1), ?_, ⟨by simp only; omega, by simpa using hD2, by simp, by simp, by omega, ?_, ?_⟩, by simp only; omega⟩
        · simp only [putV, List.length_append, List.length_singleton]
          repeat (first | exact Env.sub_nil | refine Env.sub_cons rfl ?_ | (refine Env.sub_cons (congrArg some ?_) ?_; (· first | rfl | go_num | (simp; done))))
        · ((repeat (first | (refine (killO_ne ?_).trans ?_; (· (intro hq; first | (have := lt_io _ hq; first | omega | (simp; omega)) | (have := lt_ig _ hq; first | omega | (simp; omega))))) | (refine (Hp.at_put_ne ?_).trans ?_; (· (first | assumption | (exact Ne.symm (by assumption)) | omega | (simp; done) | (simp; omega)))) | (refine (Hp.at_push_lt ?_).trans ?_; (· (first | assumption | omega | (simp; done) | (simp; omega)))) | (refine (Hp.at_kill_ne ?_).trans ?_; (· (first | assumption | (exact Ne.symm (by assumption)) | omega | (simp; done) | (simp; omega)))) | (refine (HExt.eq (by assumption) _ ?_ ?_).trans ?_; (· (first | assumption | omega | (simp; done) | (simp; omega))); (· (first | (intro h; cases h; done) | (simp; done) | (simp; omega)))))); (first | assumption | exact Hp.at_push_eq | (refine Hp.at_push_id ?_; (· (first | rfl | assumption | omega | (simp; done) | (simp; omega)))) | (refine Hp.at_put_eq ?_; (· (first | assumption | omega | (simp; done) | (simp; omega)))) | (refine Hp.at_put_id ?_ ?_; (· (first | rfl | assumption | omega | (simp; done) | (simp; omega))); (· (first | assumption | omega | (simp; done) | (simp; omega))))))
        ·
          repeat (first | exact HExt.refl _ _ | assumption | refine HExt.push ?_ | (refine HExt.put ?_ ?_; rotate_left 1; (· first | (refine .inr ?_; first | omega | (simp; done) | (simp; omega)) | (refine .inl ?_; simp))) | (refine HExt.kill ?_ ?_; rotate_left 1; (· first | (refine .inr ?_; first | omega | (simp; done) | (simp; omega)) | (refine .inl ?_; simp))) | (refine HExt.tr ?_ (by assumption) ?_; rotate_left 1; (· first | (intro _ h; cases h; done) | (simp; done) | (simp; omega))))
  · obtain rfl : k = l.length := by omega
    cases o with
    | none => exact absurd (ho rfl) (by omega)
    | some id =>
      obtain ⟨hd0, hid, hat, hx3⟩ := hI
      rw [List.drop_length, encs_nil, List.append_nil] at hD
      subst hD
      simp only [putV]
      focus
        refine GWP.seq ?_
        refine GWP.region ?_
        refine GOps.r rfl rfl rfl rfl (grd_lss rfl rfl rfl) ?_
        refine GOps.nil ?_
        refine GWP.seq ?_
        refine GWP.cond_f rfl ?_ ?_
        · exact decide_eq_false (by omega)
        refine GWP.exit ?_
        refine GWP.seq ?_
        refine GWP.region ?_
        refine GOps.r rfl rfl rfl rfl (grd_move rfl rfl) ?_
        refine GOps.r rfl rfl rfl rfl (grd_assign rfl rfl) ?_
        refine GOps.nil ?_
        refine GWP.ret ?_
        refine ⟨_, .one rfl, ?_⟩
        refine ⟨?_, ?_⟩
        · exact ⟨id, rfl, hid, hat⟩
        · assumption
/-- The row that a number's bytes make. -/
def numP (H : Hp) (N : Nat) (v : Value) (H' : Hp) : Prop := (∃ id, v = .slice (some ⟨id, 0, none⟩) (enc N).length (if N < 128 then 1 else capU) ∧ H.length ≤ id ∧ H'.at id = some ⟨5, 1, vb (enc N), true⟩) ∧ HExt [] H H'
theorem numP.bs {H H' : Hp} {N : Nat} {v : Value} (h : numP H N v H') : (∃ p c, v = .slice p (enc N).length c ∧ BS H' (.slice p (enc N).length c) (enc N)) ∧ HExt [] H H' := by
  obtain ⟨⟨id, e, _, h2⟩, x⟩ := h
  exact ⟨⟨_, _, e, bs_blk h2 rfl (by rw [List.drop_zero]; exact List.take_of_length_le (by simp)) rfl (by simp) (allU8_vb _)⟩, x⟩
set_option maxHeartbeats 4000000 in
set_option maxRecDepth 100000 in
set_option linter.unusedSimpArgs false in
theorem g_refnum : ∀ (N : Nat), N < 18446744073709551616 → ∀ (H : Hp) (mi : Int), mi = (N : Int) → GCalls Try.prog 36 [.int .u64 mi] [] H (numP H N) := by
  intro N
  induction N using Nat.strongRecOn with
  | ind N ih =>
    intro hN H mi hmi
    subst hmi
    unfold numP
    have hlo := low_u8 N
    have hle := enc_le N hN
    by_cases h128 : N < 128
    · have he := enc_lt h128
      have hw := low_u8 N
      rw [wrap_u8_in (by omega)] at hw
      rw [if_pos h128, he, List.length_singleton]
      refine GCalls.body tab_is Try.func36 rfl Try.results36 Try.ntmps36 (by simp) ?_ ?_
      · first | (intro _ h; cases h; done) | (simp; done) | (simp; omega) | (intro i hi; simp at hi; rcases hi with rfl | rfl <;> omega) | (intro i hi; simp at hi; rcases hi with rfl | rfl | rfl <;> omega)
      focus
        refine GWP.seq ?_
        refine GWP.region ?_
        refine GOps.r rfl rfl rfl rfl (grd_assign rfl rfl) ?_
        refine GOps.nil ?_
        refine GWP.seq ?_
        refine GWP.seq ?_
        refine GWP.region ?_
        refine GOps.r rfl rfl rfl rfl (grd_move rfl rfl) ?_
        refine GOps.r rfl rfl rfl rfl (grd_lss rfl rfl rfl) ?_
        refine GOps.nil ?_
        refine GWP.cond_t rfl ?_ ?_
        · exact decide_eq_true (by omega)
        refine GWP.seq ?_
        refine GWP.region ?_
        refine GOps.r rfl rfl rfl rfl (grd_move rfl rfl) ?_
        refine GOps.r rfl rfl rfl rfl (grd_conv_in tab_is rfl rfl rfl rfl rfl ?_) ?_
        · refine wrap_u8_in ?_; omega
        focus
          refine GOps.w1 rfl rfl rfl rfl (gop_lit (id := ?_) (cs := ?_) ?_ tab_is rfl rfl rfl ?_ ?_ rfl ?_ ?_) ?_
          rotate_left 2
          · rfl
          · decide
          · decide
          · simp [gfill, gsets, Value.cells]; rfl
          · rfl
        refine GOps.r rfl rfl rfl rfl (grd_assign rfl rfl) ?_
        refine GOps.nil ?_
        refine GWP.ret ?_
        refine ⟨_, .one rfl, ?_⟩
        refine ⟨?_, ?_⟩
        · exact ⟨_, rfl, Nat.le_refl _, by rw [hw]; exact Hp.at_push_eq⟩
        refine HExt.push ?_
        · exact HExt.refl _ _
    · have he := enc_ge h128
      have hmo : IntKind.u8.wrap ((N : Int) % 128 + 128) = ((UInt8.ofNat (N % 128 + 128)).toNat : Int) := by
        rw [IntKind.wrap_u8]
        simp
      have ih2 := fun H mi hm => (ih (N / 128) (by omega) (by omega) H mi hm).mono fun v H' h => h.bs
      have hl2 : (enc (N / 128)).length + 1 = (enc N).length := by rw [he]; rfl
      have hp2 := enc_pos (N / 128)
      clear ih
      rw [if_neg h128]
      refine GCalls.body tab_is Try.func36 rfl Try.results36 Try.ntmps36 (by simp) ?_ ?_
      · first | (intro _ h; cases h; done) | (simp; done) | (simp; omega) | (intro i hi; simp at hi; rcases hi with rfl | rfl <;> omega) | (intro i hi; simp at hi; rcases hi with rfl | rfl | rfl <;> omega)
      focus
        refine GWP.seq ?_
        refine GWP.region ?_
        refine GOps.r rfl rfl rfl rfl (grd_assign rfl rfl) ?_
        refine GOps.nil ?_
        refine GWP.seq ?_
        refine GWP.seq ?_
        refine GWP.region ?_
        refine GOps.r rfl rfl rfl rfl (grd_move rfl rfl) ?_
        refine GOps.r rfl rfl rfl rfl (grd_lss rfl rfl rfl) ?_
        refine GOps.nil ?_
        refine GWP.cond_f rfl ?_ ?_
        · exact decide_eq_false (by omega)
        refine GWP.skip ?_
        refine GWP.seq ?_
        refine GWP.region ?_
        refine GOps.r rfl rfl rfl rfl (grd_move rfl rfl) ?_
        refine GOps.r rfl rfl rfl rfl (grd_rem64 rfl rfl rfl ?_ ?_) ?_
        · omega
        · omega
        refine GOps.r rfl rfl rfl rfl (grd_conv_in tab_is rfl rfl rfl rfl rfl ?_) ?_
        · refine wrap_u8_in ?_; omega
        refine GOps.r rfl rfl rfl rfl (grd_add rfl rfl rfl) ?_
        focus
          refine GOps.w1 rfl rfl rfl rfl (gop_lit (id := ?_) (cs := ?_) ?_ tab_is rfl rfl rfl ?_ ?_ rfl ?_ ?_) ?_
          rotate_left 2
          · rfl
          · decide
          · decide
          · simp [gfill, gsets, Value.cells]; rfl
          · rfl
        refine GOps.r rfl rfl rfl rfl (grd_move rfl rfl) ?_
        refine GOps.r rfl rfl rfl rfl (grd_quoU rfl rfl rfl ?_ ?_) ?_
        · omega
        · omega
        refine GOps.w rfl rfl rfl rfl (gop_call rfl Try.call36 rfl ?_ (ih2 _ _ ?_)) ?_
        · intro _ h; cases h; done
        · omega
        rintro _ Hxi4 ⟨⟨pi1, ci2, rfl, bi3⟩, xi4⟩
        have xi4l := HExt.len xi4; try simp at xi4l
        focus
          refine GOps.w1 rfl rfl rfl rfl (gop_fullB (id := ?_) (L := ?_) (M := ?_) (K := ?_) ?_ tab_is rfl rfl rfl rfl ?_ ?_ ?_ (gsrc_bs rfl rfl rfl ?_) ?_ ?_ ?_ ?_) ?_
          rotate_left 4
          · rfl
          refine bs_b1 (b := ?_) (u := ?_) ?_ ?_ ?_ ?_
          rotate_left 2
          refine (HExt.eq (by assumption) _ ?_ ?_).trans ?_
          · simp; done
          · intro h; cases h; done
          · exact Hp.at_push_eq
          · rfl
          · exact congrArg (fun z : Int => [Value.int .u8 z]) (by assumption)
          · rfl
          · decide
          · omega
          · assumption
          · exact BS.len (by assumption)
          · rfl
          · omega
          · omega
        refine GOps.r rfl rfl rfl rfl (grd_assign rfl rfl) ?_
        refine GOps.nil ?_
        refine GWP.ret ?_
        refine ⟨_, .one rfl, ?_⟩
        refine ⟨?_, ?_⟩
        rotate_left 1
        refine HExt.push ?_
        refine HExt.tr ?_ (by assumption) ?_
        refine HExt.push ?_
        · exact HExt.refl _ _
        · intro _ h; cases h; done
      exact ⟨_, congrArg (fun m => Value.slice (some ⟨_, 0, none⟩) m capU) (by omega), by omega, by rw [he]; exact Hp.at_push_eq⟩
set_option maxHeartbeats 4000000 in
set_option maxRecDepth 100000 in
set_option linter.unusedSimpArgs false in
theorem g_seal (H : Hp) (p : Option Addr) (n c : Nat) (L : List UInt8) (hb : BS H (.slice p n c) L) (hn : n ≤ 35184372088832) : GCalls Try.prog 30 [.slice p n c] [] H (fun v H' => ∃ p' c', v = .slice p' (n + 4) c' ∧ BS H' (.slice p' (n + 4) c') (sealL L) ∧ HExt [] H H') :=
  (GCalls.own1 hb (by omega) fun A c' w h1 h2 h3 h4 h5 => seal_any A n c' L w h1 h2 h3 h4 h5 hn).mono fun v H' ⟨e1, e2⟩ => by
    subst e1 e2
    exact ⟨_, _, rfl, bs_push rfl (by rw [sealL_length, hb.len]), (HExt.refl _ _).push⟩
end Go.Proofs.Ytjlimdiimdihfaa

/- Records: alike or not. -/
namespace Go.Proofs.Ytjlimdiimdihfaa
open Go.RowKit

/-- A record. -/
structure RecS where
  kind : Int
  id : Int
  base : Int
  fr : Int
  til : Int
  blocks : List UInt8
  count : Int
  len : Int
  sum : Int
  deriving DecidableEq
def RecS.val (r : RecS) (s : Value) : Value := .agg #[.int .u8 r.kind, .int .i64 r.id, .int .i64 r.base, .int .i64 r.fr, .int .i64 r.til, s, .int .i64 r.count, .int .u64 r.len, .int .u64 r.sum]
def RecS.same (a b : RecS) : Bool := decide (a = b)
theorem RecS.same_self (r : RecS) : r.same r = true := decide_eq_true rfl
theorem RecS.same_chain (r q : RecS) : (r.same q == (r.kind == q.kind && (r.id == q.id && (r.base == q.base && (r.fr == q.fr && (r.til == q.til && (r.blocks == q.blocks && (r.count == q.count && (r.len == q.len && r.sum == q.sum))))))))) = true := by
  obtain ⟨k1, i1, b1, f1, t1, L, c1, l1, s1⟩ := r
  obtain ⟨k2, i2, b2, f2, t2, M, c2, l2, s2⟩ := q
  rw [beq_iff_eq, Bool.eq_iff_iff]
  simp [RecS.same]
set_option maxHeartbeats 4000000 in
set_option maxRecDepth 100000 in
set_option linter.unusedSimpArgs false in
theorem g_rsame (H : Hp) (r q : RecS) (p1 p2 : Option Addr) (m n cm cn : Nat) (hL : BS H (.slice p1 m cm) r.blocks) (hM : BS H (.slice p2 n cn) q.blocks) :
    GCalls Try.prog 19 [.agg #[.int .u8 r.kind, .int .i64 r.id, .int .i64 r.base, .int .i64 r.fr, .int .i64 r.til, .slice p1 m cm, .int .i64 r.count, .int .u64 r.len, .int .u64 r.sum], .agg #[.int .u8 q.kind, .int .i64 q.id, .int .i64 q.base, .int .i64 q.fr, .int .i64 q.til, .slice p2 n cn, .int .i64 q.count, .int .u64 q.len, .int .u64 q.sum]] [] H fun v H' => v = .bool (r.same q) ∧ HExt [] H H' := by
  obtain ⟨k1, i1, b1, f1, t1, L, c1, l1, s1⟩ := r
  obtain ⟨k2, i2, b2, f2, t2, M, c2, l2, s2⟩ := q
  simp only [RecS.same]
  refine GCalls.body tab_is Try.func19 rfl Try.results19 Try.ntmps19 (by simp) ?_ ?_
  · first | (intro _ h; cases h; done) | (simp; done) | (simp; omega) | (intro i hi; simp at hi; rcases hi with rfl | rfl <;> omega) | (intro i hi; simp at hi; rcases hi with rfl | rfl | rfl <;> omega)
  focus
    refine GWP.seq ?_
    refine GWP.region ?_
    focus
      refine GOps.w1 rfl rfl rfl rfl (gop_box' (id := ?_) ?_ rfl rfl rfl) ?_
      rotate_left 1
      · rfl
    focus
      refine GOps.w1 rfl rfl rfl rfl (gop_box' (id := ?_) ?_ rfl rfl rfl) ?_
      rotate_left 1
      · simp; rfl
    refine GOps.r rfl rfl rfl rfl (grd_assign rfl rfl) ?_
    refine GOps.nil ?_
    refine GWP.seq ?_
    refine GWP.region ?_
    refine GOps.r rfl rfl rfl rfl (grd_fieldAddr tab_is rfl rfl rfl rfl rfl) ?_
    focus
      refine GOps.r rfl rfl rfl rfl (grd_load1 (b := ?_) (v := ?_) tab_is rfl rfl rfl rfl ?_ ?_) ?_
      rotate_left 2
      refine (Hp.at_push_lt ?_).trans ?_
      · simp; done
      · exact Hp.at_push_eq
      · rfl
    refine GOps.r rfl rfl rfl rfl (grd_fieldAddr tab_is rfl rfl rfl rfl rfl) ?_
    focus
      refine GOps.r rfl rfl rfl rfl (grd_load1 (b := ?_) (v := ?_) tab_is rfl rfl rfl rfl ?_ ?_) ?_
      rotate_left 2
      refine Hp.at_push_id ?_
      · simp; done
      · rfl
    refine GOps.r rfl rfl rfl rfl (grd_eql rfl rfl rfl) ?_
    refine GOps.r rfl rfl rfl rfl (grd_move rfl rfl) ?_
    refine GOps.split rfl rfl (fun a1 => ?_) (fun a1 => ?_)
    simp only [beq_true, beq_false, Bool.not_true, Bool.not_false, Bool.not_eq_true', Bool.not_eq_false', decide_eq_true_eq, decide_eq_false_iff_not] at a1
    refine GOps.take rfl rfl ?_ ?_
    · exact beq_iff_eq.2 (decide_eq_true (by assumption))
    refine GOps.r rfl rfl rfl rfl (grd_fieldAddr tab_is rfl rfl rfl rfl rfl) ?_
    refine GOps.take rfl rfl ?_ ?_
    · exact beq_iff_eq.2 (decide_eq_true (by assumption))
    focus
      refine GOps.r rfl rfl rfl rfl (grd_load1 (b := ?_) (v := ?_) tab_is rfl rfl rfl rfl ?_ ?_) ?_
      rotate_left 2
      refine (Hp.at_push_lt ?_).trans ?_
      · simp; done
      · exact Hp.at_push_eq
      · rfl
    refine GOps.take rfl rfl ?_ ?_
    · exact beq_iff_eq.2 (decide_eq_true (by assumption))
    refine GOps.r rfl rfl rfl rfl (grd_fieldAddr tab_is rfl rfl rfl rfl rfl) ?_
    refine GOps.take rfl rfl ?_ ?_
    · exact beq_iff_eq.2 (decide_eq_true (by assumption))
    focus
      refine GOps.r rfl rfl rfl rfl (grd_load1 (b := ?_) (v := ?_) tab_is rfl rfl rfl rfl ?_ ?_) ?_
      rotate_left 2
      refine Hp.at_push_id ?_
      · simp; done
      · rfl
    refine GOps.take rfl rfl ?_ ?_
    · exact beq_iff_eq.2 (decide_eq_true (by assumption))
    refine GOps.r rfl rfl rfl rfl (grd_eql rfl rfl rfl) ?_
    refine GOps.r rfl rfl rfl rfl (grd_pick_t rfl rfl ?_ rfl) ?_
    · exact decide_eq_true (by assumption)
    refine GOps.r rfl rfl rfl rfl (grd_move rfl rfl) ?_
    refine GOps.split rfl rfl (fun a2 => ?_) (fun a2 => ?_)
    simp only [beq_true, beq_false, Bool.not_true, Bool.not_false, Bool.not_eq_true', Bool.not_eq_false', decide_eq_true_eq, decide_eq_false_iff_not] at a2
    refine GOps.take rfl rfl ?_ ?_
    · exact beq_iff_eq.2 (decide_eq_true (by assumption))
    refine GOps.r rfl rfl rfl rfl (grd_fieldAddr tab_is rfl rfl rfl rfl rfl) ?_
    refine GOps.take rfl rfl ?_ ?_
    · exact beq_iff_eq.2 (decide_eq_true (by assumption))
    focus
      refine GOps.r rfl rfl rfl rfl (grd_load1 (b := ?_) (v := ?_) tab_is rfl rfl rfl rfl ?_ ?_) ?_
      rotate_left 2
      refine (Hp.at_push_lt ?_).trans ?_
      · simp; done
      · exact Hp.at_push_eq
      · rfl
    refine GOps.take rfl rfl ?_ ?_
    · exact beq_iff_eq.2 (decide_eq_true (by assumption))
    refine GOps.r rfl rfl rfl rfl (grd_fieldAddr tab_is rfl rfl rfl rfl rfl) ?_
    refine GOps.take rfl rfl ?_ ?_
    · exact beq_iff_eq.2 (decide_eq_true (by assumption))
    focus
      refine GOps.r rfl rfl rfl rfl (grd_load1 (b := ?_) (v := ?_) tab_is rfl rfl rfl rfl ?_ ?_) ?_
      rotate_left 2
      refine Hp.at_push_id ?_
      · simp; done
      · rfl
    refine GOps.take rfl rfl ?_ ?_
    · exact beq_iff_eq.2 (decide_eq_true (by assumption))
    refine GOps.r rfl rfl rfl rfl (grd_eql rfl rfl rfl) ?_
    refine GOps.r rfl rfl rfl rfl (grd_pick_t rfl rfl ?_ rfl) ?_
    · exact decide_eq_true (by assumption)
    refine GOps.r rfl rfl rfl rfl (grd_move rfl rfl) ?_
    refine GOps.split rfl rfl (fun a3 => ?_) (fun a3 => ?_)
    simp only [beq_true, beq_false, Bool.not_true, Bool.not_false, Bool.not_eq_true', Bool.not_eq_false', decide_eq_true_eq, decide_eq_false_iff_not] at a3
    refine GOps.take rfl rfl ?_ ?_
    · exact beq_iff_eq.2 (decide_eq_true (by assumption))
    refine GOps.r rfl rfl rfl rfl (grd_fieldAddr tab_is rfl rfl rfl rfl rfl) ?_
    refine GOps.take rfl rfl ?_ ?_
    · exact beq_iff_eq.2 (decide_eq_true (by assumption))
    focus
      refine GOps.r rfl rfl rfl rfl (grd_loadNK (b := ?_) (cs := ?_) tab_is rfl rfl rfl rfl ?_ ?_ ?_) ?_
      rotate_left 2
      refine (Hp.at_push_lt ?_).trans ?_
      · simp; done
      · exact Hp.at_push_eq
      · exact Nat.le_of_ble_eq_true rfl
      · simp [Value.cells]; rfl
    refine GOps.take rfl rfl ?_ ?_
    · exact beq_iff_eq.2 (decide_eq_true (by assumption))
    refine GOps.r rfl rfl rfl rfl (grd_fieldAddr tab_is rfl rfl rfl rfl rfl) ?_
    refine GOps.take rfl rfl ?_ ?_
    · exact beq_iff_eq.2 (decide_eq_true (by assumption))
    focus
      refine GOps.r rfl rfl rfl rfl (grd_loadNK (b := ?_) (cs := ?_) tab_is rfl rfl rfl rfl ?_ ?_ ?_) ?_
      rotate_left 2
      refine Hp.at_push_id ?_
      · simp; done
      · exact Nat.le_of_ble_eq_true rfl
      · simp [Value.cells]; rfl
    refine GOps.take rfl rfl ?_ ?_
    · exact beq_iff_eq.2 (decide_eq_true (by assumption))
    focus
      refine GOps.r rfl rfl rfl rfl (grd_aeqlK (b := ?_) tab_is rfl rfl rfl rfl rfl rfl ?_ ?_ ?_) ?_
      rotate_left 1
      · rfl
      · rfl
      · simp [lEq, cEq]; rfl
    refine GOps.r rfl rfl rfl rfl (grd_pick_t rfl rfl ?_ rfl) ?_
    · exact decide_eq_true (by assumption)
    refine GOps.r rfl rfl rfl rfl (grd_move rfl rfl) ?_
    refine GOps.split rfl rfl (fun a4 => ?_) (fun a4 => ?_)
    simp only [beq_true, beq_false, Bool.not_true, Bool.not_false, Bool.not_eq_true', Bool.not_eq_false', decide_eq_true_eq, decide_eq_false_iff_not] at a4
    refine GOps.take rfl rfl ?_ ?_
    · exact decide_eq_true (by assumption)
    refine GOps.r rfl rfl rfl rfl (grd_fieldAddr tab_is rfl rfl rfl rfl rfl) ?_
    refine GOps.take rfl rfl ?_ ?_
    · exact decide_eq_true (by assumption)
    focus
      refine GOps.r rfl rfl rfl rfl (grd_load1 (b := ?_) (v := ?_) tab_is rfl rfl rfl rfl ?_ ?_) ?_
      rotate_left 2
      refine (Hp.at_push_lt ?_).trans ?_
      · simp; done
      · exact Hp.at_push_eq
      · rfl
    refine GOps.take rfl rfl ?_ ?_
    · exact decide_eq_true (by assumption)
    focus
      refine GOps.re rfl rfl rfl rfl (grd_strBS (L := ?_) tab_is rfl rfl rfl rfl rfl rfl rfl rfl ?_) ?_
      rotate_left 1
      focus
        refine BS.ext (by assumption) ?_
        refine HExt.push ?_
        refine HExt.push ?_
        · exact HExt.refl _ _
    refine GOps.take rfl rfl ?_ ?_
    · exact decide_eq_true (by assumption)
    refine GOps.r rfl rfl rfl rfl (grd_fieldAddr tab_is rfl rfl rfl rfl rfl) ?_
    refine GOps.take rfl rfl ?_ ?_
    · exact decide_eq_true (by assumption)
    focus
      refine GOps.r rfl rfl rfl rfl (grd_load1 (b := ?_) (v := ?_) tab_is rfl rfl rfl rfl ?_ ?_) ?_
      rotate_left 2
      refine Hp.at_push_id ?_
      · simp; done
      · rfl
    refine GOps.take rfl rfl ?_ ?_
    · exact decide_eq_true (by assumption)
    focus
      refine GOps.re rfl rfl rfl rfl (grd_strBS (L := ?_) tab_is rfl rfl rfl rfl rfl rfl rfl rfl ?_) ?_
      rotate_left 1
      focus
        refine BS.ext (by assumption) ?_
        refine HExt.push ?_
        refine HExt.push ?_
        · exact HExt.refl _ _
    refine GOps.take rfl rfl ?_ ?_
    · exact decide_eq_true (by assumption)
    refine GOps.r rfl rfl rfl rfl (grd_seql' rfl rfl rfl) ?_
    refine GOps.r rfl rfl rfl rfl (grd_pick_t rfl rfl ?_ rfl) ?_
    · assumption
    refine GOps.r rfl rfl rfl rfl (grd_move rfl rfl) ?_
    refine GOps.split rfl rfl (fun a5 => ?_) (fun a5 => ?_)
    simp only [beq_true, beq_false, Bool.not_true, Bool.not_false, Bool.not_eq_true', Bool.not_eq_false', decide_eq_true_eq, decide_eq_false_iff_not] at a5
    refine GOps.take rfl rfl ?_ ?_
    · exact beq_iff_eq.2 (decide_eq_true (by assumption))
    refine GOps.r rfl rfl rfl rfl (grd_fieldAddr tab_is rfl rfl rfl rfl rfl) ?_
    refine GOps.take rfl rfl ?_ ?_
    · exact beq_iff_eq.2 (decide_eq_true (by assumption))
    focus
      refine GOps.r rfl rfl rfl rfl (grd_load1 (b := ?_) (v := ?_) tab_is rfl rfl rfl rfl ?_ ?_) ?_
      rotate_left 2
      refine (Hp.at_push_lt ?_).trans ?_
      · simp; done
      · exact Hp.at_push_eq
      · rfl
    refine GOps.take rfl rfl ?_ ?_
    · exact beq_iff_eq.2 (decide_eq_true (by assumption))
    refine GOps.r rfl rfl rfl rfl (grd_fieldAddr tab_is rfl rfl rfl rfl rfl) ?_
    refine GOps.take rfl rfl ?_ ?_
    · exact beq_iff_eq.2 (decide_eq_true (by assumption))
    focus
      refine GOps.r rfl rfl rfl rfl (grd_load1 (b := ?_) (v := ?_) tab_is rfl rfl rfl rfl ?_ ?_) ?_
      rotate_left 2
      refine Hp.at_push_id ?_
      · simp; done
      · rfl
    refine GOps.take rfl rfl ?_ ?_
    · exact beq_iff_eq.2 (decide_eq_true (by assumption))
    refine GOps.r rfl rfl rfl rfl (grd_eql rfl rfl rfl) ?_
    refine GOps.r rfl rfl rfl rfl (grd_pick_t rfl rfl ?_ rfl) ?_
    · exact decide_eq_true (by assumption)
    refine GOps.r rfl rfl rfl rfl (grd_move rfl rfl) ?_
    refine GOps.split rfl rfl (fun a6 => ?_) (fun a6 => ?_)
    simp only [beq_true, beq_false, Bool.not_true, Bool.not_false, Bool.not_eq_true', Bool.not_eq_false', decide_eq_true_eq, decide_eq_false_iff_not] at a6
    refine GOps.take rfl rfl ?_ ?_
    · exact beq_iff_eq.2 (decide_eq_true (by assumption))
    refine GOps.r rfl rfl rfl rfl (grd_fieldAddr tab_is rfl rfl rfl rfl rfl) ?_
    refine GOps.take rfl rfl ?_ ?_
    · exact beq_iff_eq.2 (decide_eq_true (by assumption))
    focus
      refine GOps.r rfl rfl rfl rfl (grd_loadNK (b := ?_) (cs := ?_) tab_is rfl rfl rfl rfl ?_ ?_ ?_) ?_
      rotate_left 2
      refine (Hp.at_push_lt ?_).trans ?_
      · simp; done
      · exact Hp.at_push_eq
      · exact Nat.le_of_ble_eq_true rfl
      · simp [Value.cells]; rfl
    refine GOps.take rfl rfl ?_ ?_
    · exact beq_iff_eq.2 (decide_eq_true (by assumption))
    refine GOps.r rfl rfl rfl rfl (grd_fieldAddr tab_is rfl rfl rfl rfl rfl) ?_
    refine GOps.take rfl rfl ?_ ?_
    · exact beq_iff_eq.2 (decide_eq_true (by assumption))
    focus
      refine GOps.r rfl rfl rfl rfl (grd_loadNK (b := ?_) (cs := ?_) tab_is rfl rfl rfl rfl ?_ ?_ ?_) ?_
      rotate_left 2
      refine Hp.at_push_id ?_
      · simp; done
      · exact Nat.le_of_ble_eq_true rfl
      · simp [Value.cells]; rfl
    refine GOps.take rfl rfl ?_ ?_
    · exact beq_iff_eq.2 (decide_eq_true (by assumption))
    focus
      refine GOps.r rfl rfl rfl rfl (grd_aeqlK (b := ?_) tab_is rfl rfl rfl rfl rfl rfl ?_ ?_ ?_) ?_
      rotate_left 1
      · rfl
      · rfl
      · simp [lEq, cEq]; rfl
    refine GOps.r rfl rfl rfl rfl (grd_pick_t rfl rfl ?_ rfl) ?_
    · exact decide_eq_true (by assumption)
    refine GOps.r rfl rfl rfl rfl (grd_assign rfl rfl) ?_
    refine GOps.nil ?_
    refine GWP.ret ?_
    refine ⟨_, .one rfl, ?_⟩
    refine ⟨?_, ?_⟩
    rotate_left 1
    refine HExt.push ?_
    refine HExt.push ?_
    · exact HExt.refl _ _
    simp only [beq_true, beq_false, Bool.not_true, Bool.not_false, Bool.not_eq_true', Bool.not_eq_false', decide_eq_true_eq, decide_eq_false_iff_not] at a6
    refine GOps.no rfl ?_ rfl rfl ?_
    · exact beq_eq_false_iff_ne.2 (by rw [decide_eq_false (by assumption)]; decide)
    refine GOps.no rfl ?_ rfl rfl ?_
    · exact beq_eq_false_iff_ne.2 (by rw [decide_eq_false (by assumption)]; decide)
    refine GOps.no rfl ?_ rfl rfl ?_
    · exact beq_eq_false_iff_ne.2 (by rw [decide_eq_false (by assumption)]; decide)
    refine GOps.no rfl ?_ rfl rfl ?_
    · exact beq_eq_false_iff_ne.2 (by rw [decide_eq_false (by assumption)]; decide)
    refine GOps.no rfl ?_ rfl rfl ?_
    · exact beq_eq_false_iff_ne.2 (by rw [decide_eq_false (by assumption)]; decide)
    refine GOps.r rfl rfl rfl rfl (grd_pick_f rfl rfl ?_ rfl) ?_
    · exact decide_eq_false (by assumption)
    refine GOps.r rfl rfl rfl rfl (grd_assign rfl rfl) ?_
    refine GOps.nil ?_
    refine GWP.ret ?_
    refine ⟨_, .one rfl, ?_⟩
    refine ⟨?_, ?_⟩
    · simp [*]; done
    refine HExt.push ?_
    refine HExt.push ?_
    · exact HExt.refl _ _
    simp only [beq_true, beq_false, Bool.not_true, Bool.not_false, Bool.not_eq_true', Bool.not_eq_false', decide_eq_true_eq, decide_eq_false_iff_not] at a5
    refine GOps.no rfl ?_ rfl rfl ?_
    · exact beq_eq_false_iff_ne.2 (by rw [decide_eq_false (by assumption)]; decide)
    refine GOps.no rfl ?_ rfl rfl ?_
    · exact beq_eq_false_iff_ne.2 (by rw [decide_eq_false (by assumption)]; decide)
    refine GOps.no rfl ?_ rfl rfl ?_
    · exact beq_eq_false_iff_ne.2 (by rw [decide_eq_false (by assumption)]; decide)
    refine GOps.no rfl ?_ rfl rfl ?_
    · exact beq_eq_false_iff_ne.2 (by rw [decide_eq_false (by assumption)]; decide)
    refine GOps.no rfl ?_ rfl rfl ?_
    · exact beq_eq_false_iff_ne.2 (by rw [decide_eq_false (by assumption)]; decide)
    refine GOps.r rfl rfl rfl rfl (grd_pick_f rfl rfl ?_ rfl) ?_
    · exact decide_eq_false (by assumption)
    refine GOps.r rfl rfl rfl rfl (grd_move rfl rfl) ?_
    refine GOps.no rfl ?_ rfl rfl ?_
    · simp; done
    refine GOps.no rfl ?_ rfl rfl ?_
    · simp; done
    refine GOps.no rfl ?_ rfl rfl ?_
    · simp; done
    refine GOps.no rfl ?_ rfl rfl ?_
    · simp; done
    refine GOps.no rfl ?_ rfl rfl ?_
    · simp; done
    refine GOps.r rfl rfl rfl rfl (grd_pick_f rfl rfl ?_ rfl) ?_
    · with_reducible rfl
    refine GOps.r rfl rfl rfl rfl (grd_assign rfl rfl) ?_
    refine GOps.nil ?_
    refine GWP.ret ?_
    refine ⟨_, .one rfl, ?_⟩
    refine ⟨?_, ?_⟩
    · simp [*]; done
    refine HExt.push ?_
    refine HExt.push ?_
    · exact HExt.refl _ _
    simp only [beq_true, beq_false, Bool.not_true, Bool.not_false, Bool.not_eq_true', Bool.not_eq_false', decide_eq_true_eq, decide_eq_false_iff_not] at a4
    refine GOps.no rfl ?_ rfl rfl ?_
    · simp [*]; done
    refine GOps.no rfl ?_ rfl rfl ?_
    · simp [*]; done
    refine GOps.no rfl ?_ rfl rfl ?_
    · simp [*]; done
    refine GOps.no rfl ?_ rfl rfl ?_
    · simp [*]; done
    refine GOps.no rfl ?_ rfl rfl ?_
    · simp [*]; done
    refine GOps.no rfl ?_ rfl rfl ?_
    · simp [*]; done
    refine GOps.no rfl ?_ rfl rfl ?_
    · simp [*]; done
    refine GOps.r rfl rfl rfl rfl (grd_pick_f rfl rfl ?_ rfl) ?_
    · assumption
    refine GOps.r rfl rfl rfl rfl (grd_move rfl rfl) ?_
    refine GOps.no rfl ?_ rfl rfl ?_
    · simp; done
    refine GOps.no rfl ?_ rfl rfl ?_
    · simp; done
    refine GOps.no rfl ?_ rfl rfl ?_
    · simp; done
    refine GOps.no rfl ?_ rfl rfl ?_
    · simp; done
    refine GOps.no rfl ?_ rfl rfl ?_
    · simp; done
    refine GOps.r rfl rfl rfl rfl (grd_pick_f rfl rfl ?_ rfl) ?_
    · with_reducible rfl
    refine GOps.r rfl rfl rfl rfl (grd_move rfl rfl) ?_
    refine GOps.no rfl ?_ rfl rfl ?_
    · simp; done
    refine GOps.no rfl ?_ rfl rfl ?_
    · simp; done
    refine GOps.no rfl ?_ rfl rfl ?_
    · simp; done
    refine GOps.no rfl ?_ rfl rfl ?_
    · simp; done
    refine GOps.no rfl ?_ rfl rfl ?_
    · simp; done
    refine GOps.r rfl rfl rfl rfl (grd_pick_f rfl rfl ?_ rfl) ?_
    · with_reducible rfl
    refine GOps.r rfl rfl rfl rfl (grd_assign rfl rfl) ?_
    refine GOps.nil ?_
    refine GWP.ret ?_
    refine ⟨_, .one rfl, ?_⟩
    refine ⟨?_, ?_⟩
    rotate_left 1
    refine HExt.push ?_
    refine HExt.push ?_
    · exact HExt.refl _ _
    simp only [beq_true, beq_false, Bool.not_true, Bool.not_false, Bool.not_eq_true', Bool.not_eq_false', decide_eq_true_eq, decide_eq_false_iff_not] at a3
    refine GOps.no rfl ?_ rfl rfl ?_
    · exact beq_eq_false_iff_ne.2 (by rw [decide_eq_false (by assumption)]; decide)
    refine GOps.no rfl ?_ rfl rfl ?_
    · exact beq_eq_false_iff_ne.2 (by rw [decide_eq_false (by assumption)]; decide)
    refine GOps.no rfl ?_ rfl rfl ?_
    · exact beq_eq_false_iff_ne.2 (by rw [decide_eq_false (by assumption)]; decide)
    refine GOps.no rfl ?_ rfl rfl ?_
    · exact beq_eq_false_iff_ne.2 (by rw [decide_eq_false (by assumption)]; decide)
    refine GOps.no rfl ?_ rfl rfl ?_
    · exact beq_eq_false_iff_ne.2 (by rw [decide_eq_false (by assumption)]; decide)
    refine GOps.r rfl rfl rfl rfl (grd_pick_f rfl rfl ?_ rfl) ?_
    · exact decide_eq_false (by assumption)
    refine GOps.r rfl rfl rfl rfl (grd_move rfl rfl) ?_
    refine GOps.no rfl ?_ rfl rfl ?_
    · simp; done
    refine GOps.no rfl ?_ rfl rfl ?_
    · simp; done
    refine GOps.no rfl ?_ rfl rfl ?_
    · simp; done
    refine GOps.no rfl ?_ rfl rfl ?_
    · simp; done
    refine GOps.no rfl ?_ rfl rfl ?_
    · simp; done
    refine GOps.no rfl ?_ rfl rfl ?_
    · simp; done
    refine GOps.no rfl ?_ rfl rfl ?_
    · simp; done
    refine GOps.r rfl rfl rfl rfl (grd_pick_f rfl rfl ?_ rfl) ?_
    · with_reducible rfl
    refine GOps.r rfl rfl rfl rfl (grd_move rfl rfl) ?_
    refine GOps.no rfl ?_ rfl rfl ?_
    · simp; done
    refine GOps.no rfl ?_ rfl rfl ?_
    · simp; done
    refine GOps.no rfl ?_ rfl rfl ?_
    · simp; done
    refine GOps.no rfl ?_ rfl rfl ?_
    · simp; done
    refine GOps.no rfl ?_ rfl rfl ?_
    · simp; done
    refine GOps.r rfl rfl rfl rfl (grd_pick_f rfl rfl ?_ rfl) ?_
    · with_reducible rfl
    refine GOps.r rfl rfl rfl rfl (grd_move rfl rfl) ?_
    refine GOps.no rfl ?_ rfl rfl ?_
    · simp; done
    refine GOps.no rfl ?_ rfl rfl ?_
    · simp; done
    refine GOps.no rfl ?_ rfl rfl ?_
    · simp; done
    refine GOps.no rfl ?_ rfl rfl ?_
    · simp; done
    refine GOps.no rfl ?_ rfl rfl ?_
    · simp; done
    refine GOps.r rfl rfl rfl rfl (grd_pick_f rfl rfl ?_ rfl) ?_
    · with_reducible rfl
    refine GOps.r rfl rfl rfl rfl (grd_assign rfl rfl) ?_
    refine GOps.nil ?_
    refine GWP.ret ?_
    refine ⟨_, .one rfl, ?_⟩
    refine ⟨?_, ?_⟩
    · simp [*]; done
    refine HExt.push ?_
    refine HExt.push ?_
    · exact HExt.refl _ _
    simp only [beq_true, beq_false, Bool.not_true, Bool.not_false, Bool.not_eq_true', Bool.not_eq_false', decide_eq_true_eq, decide_eq_false_iff_not] at a2
    refine GOps.no rfl ?_ rfl rfl ?_
    · exact beq_eq_false_iff_ne.2 (by rw [decide_eq_false (by assumption)]; decide)
    refine GOps.no rfl ?_ rfl rfl ?_
    · exact beq_eq_false_iff_ne.2 (by rw [decide_eq_false (by assumption)]; decide)
    refine GOps.no rfl ?_ rfl rfl ?_
    · exact beq_eq_false_iff_ne.2 (by rw [decide_eq_false (by assumption)]; decide)
    refine GOps.no rfl ?_ rfl rfl ?_
    · exact beq_eq_false_iff_ne.2 (by rw [decide_eq_false (by assumption)]; decide)
    refine GOps.no rfl ?_ rfl rfl ?_
    · exact beq_eq_false_iff_ne.2 (by rw [decide_eq_false (by assumption)]; decide)
    refine GOps.r rfl rfl rfl rfl (grd_pick_f rfl rfl ?_ rfl) ?_
    · exact decide_eq_false (by assumption)
    refine GOps.r rfl rfl rfl rfl (grd_move rfl rfl) ?_
    refine GOps.no rfl ?_ rfl rfl ?_
    · simp; done
    refine GOps.no rfl ?_ rfl rfl ?_
    · simp; done
    refine GOps.no rfl ?_ rfl rfl ?_
    · simp; done
    refine GOps.no rfl ?_ rfl rfl ?_
    · simp; done
    refine GOps.no rfl ?_ rfl rfl ?_
    · simp; done
    refine GOps.r rfl rfl rfl rfl (grd_pick_f rfl rfl ?_ rfl) ?_
    · with_reducible rfl
    refine GOps.r rfl rfl rfl rfl (grd_move rfl rfl) ?_
    refine GOps.no rfl ?_ rfl rfl ?_
    · simp; done
    refine GOps.no rfl ?_ rfl rfl ?_
    · simp; done
    refine GOps.no rfl ?_ rfl rfl ?_
    · simp; done
    refine GOps.no rfl ?_ rfl rfl ?_
    · simp; done
    refine GOps.no rfl ?_ rfl rfl ?_
    · simp; done
    refine GOps.no rfl ?_ rfl rfl ?_
    · simp; done
    refine GOps.no rfl ?_ rfl rfl ?_
    · simp; done
    refine GOps.r rfl rfl rfl rfl (grd_pick_f rfl rfl ?_ rfl) ?_
    · with_reducible rfl
    refine GOps.r rfl rfl rfl rfl (grd_move rfl rfl) ?_
    refine GOps.no rfl ?_ rfl rfl ?_
    · simp; done
    refine GOps.no rfl ?_ rfl rfl ?_
    · simp; done
    refine GOps.no rfl ?_ rfl rfl ?_
    · simp; done
    refine GOps.no rfl ?_ rfl rfl ?_
    · simp; done
    refine GOps.no rfl ?_ rfl rfl ?_
    · simp; done
    refine GOps.r rfl rfl rfl rfl (grd_pick_f rfl rfl ?_ rfl) ?_
    · with_reducible rfl
    refine GOps.r rfl rfl rfl rfl (grd_move rfl rfl) ?_
    refine GOps.no rfl ?_ rfl rfl ?_
    · simp; done
    refine GOps.no rfl ?_ rfl rfl ?_
    · simp; done
    refine GOps.no rfl ?_ rfl rfl ?_
    · simp; done
    refine GOps.no rfl ?_ rfl rfl ?_
    · simp; done
    refine GOps.no rfl ?_ rfl rfl ?_
    · simp; done
    refine GOps.r rfl rfl rfl rfl (grd_pick_f rfl rfl ?_ rfl) ?_
    · with_reducible rfl
    refine GOps.r rfl rfl rfl rfl (grd_assign rfl rfl) ?_
    refine GOps.nil ?_
    refine GWP.ret ?_
    refine ⟨_, .one rfl, ?_⟩
    refine ⟨?_, ?_⟩
    · simp [*]; done
    refine HExt.push ?_
    refine HExt.push ?_
    · exact HExt.refl _ _
    simp only [beq_true, beq_false, Bool.not_true, Bool.not_false, Bool.not_eq_true', Bool.not_eq_false', decide_eq_true_eq, decide_eq_false_iff_not] at a1
    refine GOps.no rfl ?_ rfl rfl ?_
    · exact beq_eq_false_iff_ne.2 (by rw [decide_eq_false (by assumption)]; decide)
    refine GOps.no rfl ?_ rfl rfl ?_
    · exact beq_eq_false_iff_ne.2 (by rw [decide_eq_false (by assumption)]; decide)
    refine GOps.no rfl ?_ rfl rfl ?_
    · exact beq_eq_false_iff_ne.2 (by rw [decide_eq_false (by assumption)]; decide)
    refine GOps.no rfl ?_ rfl rfl ?_
    · exact beq_eq_false_iff_ne.2 (by rw [decide_eq_false (by assumption)]; decide)
    refine GOps.no rfl ?_ rfl rfl ?_
    · exact beq_eq_false_iff_ne.2 (by rw [decide_eq_false (by assumption)]; decide)
    refine GOps.r rfl rfl rfl rfl (grd_pick_f rfl rfl ?_ rfl) ?_
    · exact decide_eq_false (by assumption)
    refine GOps.r rfl rfl rfl rfl (grd_move rfl rfl) ?_
    refine GOps.no rfl ?_ rfl rfl ?_
    · simp; done
    refine GOps.no rfl ?_ rfl rfl ?_
    · simp; done
    refine GOps.no rfl ?_ rfl rfl ?_
    · simp; done
    refine GOps.no rfl ?_ rfl rfl ?_
    · simp; done
    refine GOps.no rfl ?_ rfl rfl ?_
    · simp; done
    refine GOps.r rfl rfl rfl rfl (grd_pick_f rfl rfl ?_ rfl) ?_
    · with_reducible rfl
    refine GOps.r rfl rfl rfl rfl (grd_move rfl rfl) ?_
    refine GOps.no rfl ?_ rfl rfl ?_
    · simp; done
    refine GOps.no rfl ?_ rfl rfl ?_
    · simp; done
    refine GOps.no rfl ?_ rfl rfl ?_
    · simp; done
    refine GOps.no rfl ?_ rfl rfl ?_
    · simp; done
    refine GOps.no rfl ?_ rfl rfl ?_
    · simp; done
    refine GOps.r rfl rfl rfl rfl (grd_pick_f rfl rfl ?_ rfl) ?_
    · with_reducible rfl
    refine GOps.r rfl rfl rfl rfl (grd_move rfl rfl) ?_
    refine GOps.no rfl ?_ rfl rfl ?_
    · simp; done
    refine GOps.no rfl ?_ rfl rfl ?_
    · simp; done
    refine GOps.no rfl ?_ rfl rfl ?_
    · simp; done
    refine GOps.no rfl ?_ rfl rfl ?_
    · simp; done
    refine GOps.no rfl ?_ rfl rfl ?_
    · simp; done
    refine GOps.no rfl ?_ rfl rfl ?_
    · simp; done
    refine GOps.no rfl ?_ rfl rfl ?_
    · simp; done
    refine GOps.r rfl rfl rfl rfl (grd_pick_f rfl rfl ?_ rfl) ?_
    · with_reducible rfl
    refine GOps.r rfl rfl rfl rfl (grd_move rfl rfl) ?_
    refine GOps.no rfl ?_ rfl rfl ?_
    · simp; done
    refine GOps.no rfl ?_ rfl rfl ?_
    · simp; done
    refine GOps.no rfl ?_ rfl rfl ?_
    · simp; done
    refine GOps.no rfl ?_ rfl rfl ?_
    · simp; done
    refine GOps.no rfl ?_ rfl rfl ?_
    · simp; done
    refine GOps.r rfl rfl rfl rfl (grd_pick_f rfl rfl ?_ rfl) ?_
    · with_reducible rfl
    refine GOps.r rfl rfl rfl rfl (grd_move rfl rfl) ?_
    refine GOps.no rfl ?_ rfl rfl ?_
    · simp; done
    refine GOps.no rfl ?_ rfl rfl ?_
    · simp; done
    refine GOps.no rfl ?_ rfl rfl ?_
    · simp; done
    refine GOps.no rfl ?_ rfl rfl ?_
    · simp; done
    refine GOps.no rfl ?_ rfl rfl ?_
    · simp; done
    refine GOps.r rfl rfl rfl rfl (grd_pick_f rfl rfl ?_ rfl) ?_
    · with_reducible rfl
    refine GOps.r rfl rfl rfl rfl (grd_assign rfl rfl) ?_
    refine GOps.nil ?_
    refine GWP.ret ?_
    refine ⟨_, .one rfl, ?_⟩
    refine ⟨?_, ?_⟩
    · simp [*]; done
    refine HExt.push ?_
    refine HExt.push ?_
    · exact HExt.refl _ _
  · subst a1 a2 a3 a5 a6
    refine congrArg Value.bool ?_
    rw [Bool.eq_iff_iff]
    simp at a4
    simp [a4.1, a4.2]
  · refine congrArg Value.bool (decide_eq_false fun e => ?_).symm
    simp only [RecS.mk.injEq] at e
    simp [e.2.2.2.1, e.2.2.2.2.1] at a4
set_option maxHeartbeats 4000000 in
set_option maxRecDepth 100000 in
set_option linter.unusedSimpArgs false in
theorem g_rplain (H : Hp) (r : RecS) (p : Option Addr) (m cm : Nat) (hL : BS H (.slice p m cm) r.blocks) :
    GCalls Try.prog 13 [.agg #[.int .u8 r.kind, .int .i64 r.id, .int .i64 r.base, .int .i64 r.fr, .int .i64 r.til, .slice p m cm, .int .i64 r.count, .int .u64 r.len, .int .u64 r.sum]] [] H fun v H' => v = .agg #[.int .u8 r.kind, .int .i64 r.id, .int .i64 r.base, .int .i64 r.fr, .int .i64 r.til, .string ⟨r.blocks.toArray⟩, .int .i64 r.count, .int .u64 r.len, .int .u64 r.sum] ∧ HExt [] H H' := by
  refine GCalls.body tab_is Try.func13 rfl Try.results13 Try.ntmps13 (by simp) ?_ ?_
  · first | (intro _ h; cases h; done) | (simp; done) | (simp; omega) | (intro i hi; simp at hi; rcases hi with rfl | rfl <;> omega) | (intro i hi; simp at hi; rcases hi with rfl | rfl | rfl <;> omega)
  focus
    refine GWP.seq ?_
    refine GWP.region ?_
    focus
      refine GOps.w1 rfl rfl rfl rfl (gop_box' (id := ?_) ?_ rfl rfl rfl) ?_
      rotate_left 1
      · rfl
    focus
      refine GOps.w1 rfl rfl rfl rfl (gop_alloc' (id := ?_) ?_ tab_is rfl rfl ?_) ?_
      rotate_left 1
      · simp; rfl
      · decide
    refine GOps.nil ?_
    refine GWP.seq ?_
    refine GWP.region ?_
    refine GOps.r rfl rfl rfl rfl (grd_fieldAddr tab_is rfl rfl rfl rfl rfl) ?_
    focus
      refine GOps.r rfl rfl rfl rfl (grd_load1 (b := ?_) (v := ?_) tab_is rfl rfl rfl rfl ?_ ?_) ?_
      rotate_left 2
      refine (Hp.at_push_lt ?_).trans ?_
      · simp; done
      · exact Hp.at_push_eq
      · rfl
    refine GOps.r rfl rfl rfl rfl (grd_fieldAddr tab_is rfl rfl rfl rfl rfl) ?_
    focus
      refine GOps.r rfl rfl rfl rfl (grd_load1 (b := ?_) (v := ?_) tab_is rfl rfl rfl rfl ?_ ?_) ?_
      rotate_left 2
      refine (Hp.at_push_lt ?_).trans ?_
      · simp; done
      · exact Hp.at_push_eq
      · rfl
    refine GOps.r rfl rfl rfl rfl (grd_fieldAddr tab_is rfl rfl rfl rfl rfl) ?_
    focus
      refine GOps.r rfl rfl rfl rfl (grd_load1 (b := ?_) (v := ?_) tab_is rfl rfl rfl rfl ?_ ?_) ?_
      rotate_left 2
      refine (Hp.at_push_lt ?_).trans ?_
      · simp; done
      · exact Hp.at_push_eq
      · rfl
    refine GOps.r rfl rfl rfl rfl (grd_fieldAddr tab_is rfl rfl rfl rfl rfl) ?_
    refine GOps.r rfl rfl rfl rfl (grd_fieldAddr tab_is rfl rfl rfl rfl rfl) ?_
    focus
      refine GOps.r rfl rfl rfl rfl (grd_load1 (b := ?_) (v := ?_) tab_is rfl rfl rfl rfl ?_ ?_) ?_
      rotate_left 2
      refine (Hp.at_push_lt ?_).trans ?_
      · simp; done
      · exact Hp.at_push_eq
      · rfl
    refine GOps.r rfl rfl rfl rfl (grd_fieldAddr tab_is rfl rfl rfl rfl rfl) ?_
    refine GOps.r rfl rfl rfl rfl (grd_fieldAddr tab_is rfl rfl rfl rfl rfl) ?_
    focus
      refine GOps.r rfl rfl rfl rfl (grd_load1 (b := ?_) (v := ?_) tab_is rfl rfl rfl rfl ?_ ?_) ?_
      rotate_left 2
      refine (Hp.at_push_lt ?_).trans ?_
      · simp; done
      · exact Hp.at_push_eq
      · rfl
    refine GOps.r rfl rfl rfl rfl (grd_fieldAddr tab_is rfl rfl rfl rfl rfl) ?_
    focus
      refine GOps.r rfl rfl rfl rfl (grd_load1 (b := ?_) (v := ?_) tab_is rfl rfl rfl rfl ?_ ?_) ?_
      rotate_left 2
      refine (Hp.at_push_lt ?_).trans ?_
      · simp; done
      · exact Hp.at_push_eq
      · rfl
    focus
      refine GOps.re rfl rfl rfl rfl (grd_strBS (L := ?_) tab_is rfl rfl rfl rfl rfl rfl rfl rfl ?_) ?_
      rotate_left 1
      focus
        refine BS.ext (by assumption) ?_
        refine HExt.push ?_
        refine HExt.push ?_
        · exact HExt.refl _ _
    refine GOps.r rfl rfl rfl rfl (grd_fieldAddr tab_is rfl rfl rfl rfl rfl) ?_
    focus
      refine GOps.r rfl rfl rfl rfl (grd_load1 (b := ?_) (v := ?_) tab_is rfl rfl rfl rfl ?_ ?_) ?_
      rotate_left 2
      refine (Hp.at_push_lt ?_).trans ?_
      · simp; done
      · exact Hp.at_push_eq
      · rfl
    refine GOps.r rfl rfl rfl rfl (grd_fieldAddr tab_is rfl rfl rfl rfl rfl) ?_
    refine GOps.r rfl rfl rfl rfl (grd_fieldAddr tab_is rfl rfl rfl rfl rfl) ?_
    focus
      refine GOps.r rfl rfl rfl rfl (grd_load1 (b := ?_) (v := ?_) tab_is rfl rfl rfl rfl ?_ ?_) ?_
      rotate_left 2
      refine (Hp.at_push_lt ?_).trans ?_
      · simp; done
      · exact Hp.at_push_eq
      · rfl
    refine GOps.r rfl rfl rfl rfl (grd_fieldAddr tab_is rfl rfl rfl rfl rfl) ?_
    refine GOps.r rfl rfl rfl rfl (grd_fieldAddr tab_is rfl rfl rfl rfl rfl) ?_
    focus
      refine GOps.r rfl rfl rfl rfl (grd_load1 (b := ?_) (v := ?_) tab_is rfl rfl rfl rfl ?_ ?_) ?_
      rotate_left 2
      refine (Hp.at_push_lt ?_).trans ?_
      · simp; done
      · exact Hp.at_push_eq
      · rfl
    focus
      refine GOps.r rfl rfl rfl rfl (grd_build (cs := ?_) tab_is rfl rfl rfl ?_ rfl ?_) ?_
      rotate_left 1
      · decide
      · simp [gfill, gsets, Value.cells]; rfl
    focus
      refine GOps.s rfl rfl rfl (gop_storeC (b := ?_) (cs := ?_) tab_is rfl rfl ?_ rfl rfl ?_ ?_ ?_ ?_ ?_ ?_) ?_
      rotate_left 2
      · rfl
      · rfl
      refine Hp.at_push_id ?_
      · simp; done
      · rfl
      · exact Nat.le_of_ble_eq_true rfl
      · exact .inr (by simp)
      · simp [splice, Value.cells]; rfl
    refine GOps.nil ?_
    refine GWP.ret ?_
    focus
      refine ⟨_, (gres_cellNK (b := ?_) (cs := ?_) rfl rfl rfl ?_ ?_ ?_), ?_⟩
      rotate_left 2
      refine Hp.at_put_eq ?_
      · simp; done
      · exact Nat.le_of_ble_eq_true rfl
      · simp [Value.cells]; rfl
    refine ⟨?_, ?_⟩
    · rfl
    refine HExt.put ?_ ?_
    refine HExt.push ?_
    refine HExt.push ?_
    · exact HExt.refl _ _
    · exact .inr (by omega)
end Go.Proofs.Ytjlimdiimdihfaa

/- Records out of bytes: the program's. -/
namespace Go.Proofs.Ytjlimdiimdihfaa
open Go.RowKit

/-- A record's cells, with its blocks' slice. -/
def recV (k id base fr to_ : Int) (s : Value) (cnt len sum : Int) : Value := .agg #[.int .u8 k, .int .i64 id, .int .i64 base, .int .i64 fr, .int .i64 to_, s, .int .i64 cnt, .int .u64 len, .int .u64 sum]
def dataOk (f n : Nat) : Prop := 1 ≤ n / 32 ∧ n / 32 ≤ 4 ∧ n % 32 = 0 ∧ f + n / 32 ≤ 256
set_option maxHeartbeats 4000000 in
set_option maxRecDepth 100000 in
set_option linter.unusedSimpArgs false in
theorem g_rdata (H : Hp) (f : Nat) (hf : f < 256) (p : Option Addr) (n c : Nat) (_hn : n ≤ 35184372088832) (hok : dataOk f n) : GCalls Try.prog 55 [.int .i64 (f : Int), .slice p n c] [] H fun v H' => v = .tuple #[recV 2 0 0 f ((f + n / 32 : Nat) : Int) (.slice p n c) 0 0 0, .int .i64 0] ∧ HExt [] H H' := by
  obtain ⟨h1, h2, h3, h4⟩ := hok
  refine GCalls.body tab_is Try.func55 rfl Try.results55 Try.ntmps55 (by simp) ?_ ?_
  · first | (intro _ h; cases h; done) | (simp; done) | (simp; omega) | (intro i hi; simp at hi; rcases hi with rfl | rfl <;> omega) | (intro i hi; simp at hi; rcases hi with rfl | rfl | rfl <;> omega)
  focus
    refine GWP.seq ?_
    refine GWP.region ?_
    focus
      refine GOps.w1 rfl rfl rfl rfl (gop_alloc' (id := ?_) ?_ tab_is rfl rfl ?_) ?_
      rotate_left 1
      · rfl
      · decide
    refine GOps.r rfl rfl rfl rfl (grd_assign rfl rfl) ?_
    refine GOps.nil ?_
    refine GWP.seq ?_
    refine GWP.region ?_
    refine GOps.r rfl rfl rfl rfl (grd_move rfl rfl) ?_
    refine GOps.r rfl rfl rfl rfl (grd_len tab_is rfl rfl rfl rfl rfl) ?_
    refine GOps.r rfl rfl rfl rfl (grd_quo64 rfl rfl rfl ?_ ?_) ?_
    · omega
    · omega
    refine GOps.r rfl rfl rfl rfl (grd_assign rfl rfl) ?_
    refine GOps.nil ?_
    refine GWP.seq ?_
    refine GWP.seq ?_
    refine GWP.region ?_
    refine GOps.r rfl rfl rfl rfl (grd_move rfl rfl) ?_
    refine GOps.r rfl rfl rfl rfl (grd_lss rfl rfl rfl) ?_
    refine GOps.r rfl rfl rfl rfl (grd_move rfl rfl) ?_
    refine GOps.take rfl rfl ?_ ?_
    · simp; omega
    refine GOps.r rfl rfl rfl rfl (grd_move rfl rfl) ?_
    refine GOps.take rfl rfl ?_ ?_
    · simp; omega
    refine GOps.r rfl rfl rfl rfl (grd_gtr rfl rfl rfl) ?_
    refine GOps.r rfl rfl rfl rfl (grd_pick_f rfl rfl ?_ rfl) ?_
    · exact decide_eq_false (by omega)
    refine GOps.r rfl rfl rfl rfl (grd_move rfl rfl) ?_
    refine GOps.take rfl rfl ?_ ?_
    · simp; omega
    refine GOps.r rfl rfl rfl rfl (grd_move rfl rfl) ?_
    refine GOps.take rfl rfl ?_ ?_
    · simp; omega
    refine GOps.r rfl rfl rfl rfl (grd_len tab_is rfl rfl rfl rfl rfl) ?_
    refine GOps.take rfl rfl ?_ ?_
    · simp; omega
    refine GOps.r rfl rfl rfl rfl (grd_rem64 rfl rfl rfl ?_ ?_) ?_
    · omega
    · omega
    refine GOps.take rfl rfl ?_ ?_
    · simp; omega
    refine GOps.r rfl rfl rfl rfl (grd_neq rfl rfl rfl) ?_
    refine GOps.r rfl rfl rfl rfl (grd_pick_f rfl rfl ?_ rfl) ?_
    · exact decide_eq_false (by omega)
    refine GOps.r rfl rfl rfl rfl (grd_move rfl rfl) ?_
    refine GOps.take rfl rfl ?_ ?_
    · simp; omega
    refine GOps.r rfl rfl rfl rfl (grd_move rfl rfl) ?_
    refine GOps.take rfl rfl ?_ ?_
    · simp; omega
    refine GOps.r rfl rfl rfl rfl (grd_move rfl rfl) ?_
    refine GOps.take rfl rfl ?_ ?_
    · simp; omega
    refine GOps.r rfl rfl rfl rfl (grd_add64 rfl rfl rfl ?_) ?_
    · omega
    refine GOps.take rfl rfl ?_ ?_
    · simp; omega
    refine GOps.r rfl rfl rfl rfl (grd_gtr rfl rfl rfl) ?_
    refine GOps.r rfl rfl rfl rfl (grd_pick_f rfl rfl ?_ rfl) ?_
    · exact decide_eq_false (by omega)
    refine GOps.nil ?_
    refine GWP.cond_f rfl ?_ ?_
    · exact decide_eq_false (by omega)
    refine GWP.skip ?_
    refine GWP.seq ?_
    refine GWP.region ?_
    refine GOps.r rfl rfl rfl rfl (grd_move rfl rfl) ?_
    refine GOps.r rfl rfl rfl rfl (grd_move rfl rfl) ?_
    refine GOps.r rfl rfl rfl rfl (grd_move rfl rfl) ?_
    refine GOps.r rfl rfl rfl rfl (grd_add64 rfl rfl rfl ?_) ?_
    · omega
    focus
      refine GOps.r rfl rfl rfl rfl (grd_build (cs := ?_) tab_is rfl rfl rfl ?_ rfl ?_) ?_
      rotate_left 1
      · decide
      · simp [gfill, gsets, Value.cells]; rfl
    refine GOps.r rfl rfl rfl rfl (grd_move rfl rfl) ?_
    focus
      refine GOps.r rfl rfl rfl rfl (grd_build (cs := ?_) tab_is rfl rfl rfl ?_ rfl ?_) ?_
      rotate_left 1
      · decide
      · simp [gfill, gsets, Value.cells]; rfl
    focus
      refine GOps.s rfl rfl rfl (gop_storeC (b := ?_) (cs := ?_) tab_is rfl rfl ?_ rfl rfl ?_ ?_ ?_ ?_ ?_ ?_) ?_
      rotate_left 2
      · rfl
      · rfl
      · exact Hp.at_push_eq
      · rfl
      · exact Nat.le_of_ble_eq_true rfl
      · exact .inr (by simp)
      · simp [splice, Value.cells]; rfl
    refine GOps.r rfl rfl rfl rfl (grd_assign rfl rfl) ?_
    refine GOps.nil ?_
    refine GWP.ret ?_
    focus
      refine ⟨_, (.two (gres_cellNK (b := ?_) (cs := ?_) rfl rfl rfl ?_ ?_ ?_) (.one rfl)), ?_⟩
      rotate_left 2
      refine Hp.at_put_eq ?_
      · simp; done
      · exact Nat.le_of_ble_eq_true rfl
      · simp [Value.cells]; rfl
    refine ⟨?_, ?_⟩
    · rfl
    refine HExt.put ?_ ?_
    refine HExt.push ?_
    · exact HExt.refl _ _
    · exact .inr (by omega)
set_option maxHeartbeats 4000000 in
set_option maxRecDepth 100000 in
set_option linter.unusedSimpArgs false in
theorem g_rdata_no (H : Hp) (f : Nat) (hf : f < 256) (p : Option Addr) (n c : Nat) (hn : n ≤ 35184372088832) (hok : ¬ dataOk f n) : GCalls Try.prog 55 [.int .i64 (f : Int), .slice p n c] [] H fun v H' => v = .tuple #[recV 0 0 0 0 0 (.slice none 0 0) 0 0 0, .int .i64 3] ∧ HExt [] H H' := by
  unfold dataOk at hok
  refine GCalls.body tab_is Try.func55 rfl Try.results55 Try.ntmps55 (by simp) ?_ ?_
  · first | (intro _ h; cases h; done) | (simp; done) | (simp; omega) | (intro i hi; simp at hi; rcases hi with rfl | rfl <;> omega) | (intro i hi; simp at hi; rcases hi with rfl | rfl | rfl <;> omega)
  focus
    refine GWP.seq ?_
    refine GWP.region ?_
    focus
      refine GOps.w1 rfl rfl rfl rfl (gop_alloc' (id := ?_) ?_ tab_is rfl rfl ?_) ?_
      rotate_left 1
      · rfl
      · decide
    refine GOps.r rfl rfl rfl rfl (grd_assign rfl rfl) ?_
    refine GOps.nil ?_
    refine GWP.seq ?_
    refine GWP.region ?_
    refine GOps.r rfl rfl rfl rfl (grd_move rfl rfl) ?_
    refine GOps.r rfl rfl rfl rfl (grd_len tab_is rfl rfl rfl rfl rfl) ?_
    refine GOps.r rfl rfl rfl rfl (grd_quo64 rfl rfl rfl ?_ ?_) ?_
    · omega
    · omega
    refine GOps.r rfl rfl rfl rfl (grd_assign rfl rfl) ?_
    refine GOps.nil ?_
    refine GWP.seq ?_
    refine GWP.seq ?_
    refine GWP.region ?_
    refine GOps.r rfl rfl rfl rfl (grd_move rfl rfl) ?_
    refine GOps.r rfl rfl rfl rfl (grd_lss rfl rfl rfl) ?_
    refine GOps.r rfl rfl rfl rfl (grd_move rfl rfl) ?_
    refine GOps.split rfl rfl (fun b1 => ?_) (fun b1 => ?_)
    simp only [beq_true, beq_false, Bool.not_true, Bool.not_false, Bool.not_eq_true', Bool.not_eq_false', decide_eq_true_eq, decide_eq_false_iff_not] at b1
    refine GOps.take rfl rfl ?_ ?_
    · exact beq_iff_eq.2 (decide_eq_false (by assumption))
    refine GOps.r rfl rfl rfl rfl (grd_move rfl rfl) ?_
    refine GOps.take rfl rfl ?_ ?_
    · exact beq_iff_eq.2 (decide_eq_false (by assumption))
    refine GOps.r rfl rfl rfl rfl (grd_gtr rfl rfl rfl) ?_
    refine GOps.r rfl rfl rfl rfl (grd_pick_f rfl rfl ?_ rfl) ?_
    · exact decide_eq_false (by assumption)
    refine GOps.r rfl rfl rfl rfl (grd_move rfl rfl) ?_
    refine GOps.split rfl rfl (fun b2 => ?_) (fun b2 => ?_)
    simp only [beq_true, beq_false, Bool.not_true, Bool.not_false, Bool.not_eq_true', Bool.not_eq_false', decide_eq_true_eq, decide_eq_false_iff_not] at b2
    refine GOps.take rfl rfl ?_ ?_
    · exact beq_iff_eq.2 (decide_eq_false (by assumption))
    refine GOps.r rfl rfl rfl rfl (grd_move rfl rfl) ?_
    refine GOps.take rfl rfl ?_ ?_
    · exact beq_iff_eq.2 (decide_eq_false (by assumption))
    refine GOps.r rfl rfl rfl rfl (grd_len tab_is rfl rfl rfl rfl rfl) ?_
    refine GOps.take rfl rfl ?_ ?_
    · exact beq_iff_eq.2 (decide_eq_false (by assumption))
    refine GOps.r rfl rfl rfl rfl (grd_rem64 rfl rfl rfl ?_ ?_) ?_
    · omega
    · omega
    refine GOps.take rfl rfl ?_ ?_
    · exact beq_iff_eq.2 (decide_eq_false (by assumption))
    refine GOps.r rfl rfl rfl rfl (grd_neq rfl rfl rfl) ?_
    refine GOps.r rfl rfl rfl rfl (grd_pick_f rfl rfl ?_ rfl) ?_
    · exact decide_eq_false (by assumption)
    refine GOps.r rfl rfl rfl rfl (grd_move rfl rfl) ?_
    refine GOps.split rfl rfl (fun b3 => ?_) (fun b3 => ?_)
    simp only [beq_true, beq_false, Bool.not_true, Bool.not_false, Bool.not_eq_true', Bool.not_eq_false', decide_eq_true_eq, decide_eq_false_iff_not] at b3
    refine GOps.take rfl rfl ?_ ?_
    · exact beq_iff_eq.2 (decide_eq_false (by assumption))
    refine GOps.r rfl rfl rfl rfl (grd_move rfl rfl) ?_
    refine GOps.take rfl rfl ?_ ?_
    · exact beq_iff_eq.2 (decide_eq_false (by assumption))
    refine GOps.r rfl rfl rfl rfl (grd_move rfl rfl) ?_
    refine GOps.take rfl rfl ?_ ?_
    · exact beq_iff_eq.2 (decide_eq_false (by assumption))
    refine GOps.r rfl rfl rfl rfl (grd_add64 rfl rfl rfl ?_) ?_
    · omega
    refine GOps.take rfl rfl ?_ ?_
    · exact beq_iff_eq.2 (decide_eq_false (by assumption))
    refine GOps.r rfl rfl rfl rfl (grd_gtr rfl rfl rfl) ?_
    refine GOps.r rfl rfl rfl rfl (grd_pick_f rfl rfl ?_ rfl) ?_
    · exact decide_eq_false (by assumption)
    refine GOps.nil ?_
    refine GWP.cond_t rfl ?_ ?_
    · exact decide_eq_true (by omega)
    refine GWP.seq ?_
    refine GWP.region ?_
    focus
      refine GOps.r rfl rfl rfl rfl (grd_build (cs := ?_) tab_is rfl rfl rfl ?_ rfl ?_) ?_
      rotate_left 1
      · decide
      · simp [gfill, gsets, Value.cells]; rfl
    focus
      refine GOps.s rfl rfl rfl (gop_storeC (b := ?_) (cs := ?_) tab_is rfl rfl ?_ rfl rfl ?_ ?_ ?_ ?_ ?_ ?_) ?_
      rotate_left 2
      · rfl
      · rfl
      · exact Hp.at_push_eq
      · rfl
      · decide
      · exact .inr (by simp)
      · simp [splice, Value.cells]; rfl
    refine GOps.r rfl rfl rfl rfl (grd_assign rfl rfl) ?_
    refine GOps.nil ?_
    refine GWP.ret ?_
    focus
      refine ⟨_, (.two (gres_cellNK (b := ?_) (cs := ?_) rfl rfl rfl ?_ ?_ ?_) (.one rfl)), ?_⟩
      rotate_left 2
      refine Hp.at_put_eq ?_
      · simp; done
      · decide
      · simp [Value.cells]; rfl
    refine ⟨?_, ?_⟩
    · rfl
    refine HExt.put ?_ ?_
    refine HExt.push ?_
    · exact HExt.refl _ _
    · exact .inr (by omega)
    simp only [beq_true, beq_false, Bool.not_true, Bool.not_false, Bool.not_eq_true', Bool.not_eq_false', decide_eq_true_eq, decide_eq_false_iff_not] at b3
    refine GOps.no rfl ?_ rfl rfl ?_
    · exact beq_eq_false_iff_ne.2 (by rw [decide_eq_true (by assumption)]; decide)
    refine GOps.no rfl ?_ rfl rfl ?_
    · exact beq_eq_false_iff_ne.2 (by rw [decide_eq_true (by assumption)]; decide)
    refine GOps.no rfl ?_ rfl rfl ?_
    · exact beq_eq_false_iff_ne.2 (by rw [decide_eq_true (by assumption)]; decide)
    refine GOps.no rfl ?_ rfl rfl ?_
    · exact beq_eq_false_iff_ne.2 (by rw [decide_eq_true (by assumption)]; decide)
    refine GOps.r rfl rfl rfl rfl (grd_pick_t rfl rfl ?_ rfl) ?_
    · exact decide_eq_true (by assumption)
    refine GOps.nil ?_
    refine GWP.cond_t rfl ?_ ?_
    · with_reducible rfl
    refine GWP.seq ?_
    refine GWP.region ?_
    focus
      refine GOps.r rfl rfl rfl rfl (grd_build (cs := ?_) tab_is rfl rfl rfl ?_ rfl ?_) ?_
      rotate_left 1
      · decide
      · simp [gfill, gsets, Value.cells]; rfl
    focus
      refine GOps.s rfl rfl rfl (gop_storeC (b := ?_) (cs := ?_) tab_is rfl rfl ?_ rfl rfl ?_ ?_ ?_ ?_ ?_ ?_) ?_
      rotate_left 2
      · rfl
      · rfl
      · exact Hp.at_push_eq
      · rfl
      · decide
      · exact .inr (by simp)
      · simp [splice, Value.cells]; rfl
    refine GOps.r rfl rfl rfl rfl (grd_assign rfl rfl) ?_
    refine GOps.nil ?_
    refine GWP.ret ?_
    focus
      refine ⟨_, (.two (gres_cellNK (b := ?_) (cs := ?_) rfl rfl rfl ?_ ?_ ?_) (.one rfl)), ?_⟩
      rotate_left 2
      refine Hp.at_put_eq ?_
      · simp; done
      · decide
      · simp [Value.cells]; rfl
    refine ⟨?_, ?_⟩
    · rfl
    refine HExt.put ?_ ?_
    refine HExt.push ?_
    · exact HExt.refl _ _
    · exact .inr (by omega)
    simp only [beq_true, beq_false, Bool.not_true, Bool.not_false, Bool.not_eq_true', Bool.not_eq_false', decide_eq_true_eq, decide_eq_false_iff_not] at b2
    refine GOps.no rfl ?_ rfl rfl ?_
    · exact beq_eq_false_iff_ne.2 (by rw [decide_eq_true (by assumption)]; decide)
    refine GOps.no rfl ?_ rfl rfl ?_
    · exact beq_eq_false_iff_ne.2 (by rw [decide_eq_true (by assumption)]; decide)
    refine GOps.no rfl ?_ rfl rfl ?_
    · exact beq_eq_false_iff_ne.2 (by rw [decide_eq_true (by assumption)]; decide)
    refine GOps.no rfl ?_ rfl rfl ?_
    · exact beq_eq_false_iff_ne.2 (by rw [decide_eq_true (by assumption)]; decide)
    refine GOps.r rfl rfl rfl rfl (grd_pick_t rfl rfl ?_ rfl) ?_
    · exact decide_eq_true (by assumption)
    refine GOps.r rfl rfl rfl rfl (grd_move rfl rfl) ?_
    refine GOps.no rfl ?_ rfl rfl ?_
    · simp; done
    refine GOps.no rfl ?_ rfl rfl ?_
    · simp; done
    refine GOps.no rfl ?_ rfl rfl ?_
    · simp; done
    refine GOps.no rfl ?_ rfl rfl ?_
    · simp; done
    refine GOps.r rfl rfl rfl rfl (grd_pick_t rfl rfl ?_ rfl) ?_
    · with_reducible rfl
    refine GOps.nil ?_
    refine GWP.cond_t rfl ?_ ?_
    · with_reducible rfl
    refine GWP.seq ?_
    refine GWP.region ?_
    focus
      refine GOps.r rfl rfl rfl rfl (grd_build (cs := ?_) tab_is rfl rfl rfl ?_ rfl ?_) ?_
      rotate_left 1
      · decide
      · simp [gfill, gsets, Value.cells]; rfl
    focus
      refine GOps.s rfl rfl rfl (gop_storeC (b := ?_) (cs := ?_) tab_is rfl rfl ?_ rfl rfl ?_ ?_ ?_ ?_ ?_ ?_) ?_
      rotate_left 2
      · rfl
      · rfl
      · exact Hp.at_push_eq
      · rfl
      · decide
      · exact .inr (by simp)
      · simp [splice, Value.cells]; rfl
    refine GOps.r rfl rfl rfl rfl (grd_assign rfl rfl) ?_
    refine GOps.nil ?_
    refine GWP.ret ?_
    focus
      refine ⟨_, (.two (gres_cellNK (b := ?_) (cs := ?_) rfl rfl rfl ?_ ?_ ?_) (.one rfl)), ?_⟩
      rotate_left 2
      refine Hp.at_put_eq ?_
      · simp; done
      · decide
      · simp [Value.cells]; rfl
    refine ⟨?_, ?_⟩
    · rfl
    refine HExt.put ?_ ?_
    refine HExt.push ?_
    · exact HExt.refl _ _
    · exact .inr (by omega)
    simp only [beq_true, beq_false, Bool.not_true, Bool.not_false, Bool.not_eq_true', Bool.not_eq_false', decide_eq_true_eq, decide_eq_false_iff_not] at b1
    refine GOps.no rfl ?_ rfl rfl ?_
    · exact beq_eq_false_iff_ne.2 (by rw [decide_eq_true (by assumption)]; decide)
    refine GOps.no rfl ?_ rfl rfl ?_
    · exact beq_eq_false_iff_ne.2 (by rw [decide_eq_true (by assumption)]; decide)
    refine GOps.r rfl rfl rfl rfl (grd_pick_t rfl rfl ?_ rfl) ?_
    · exact decide_eq_true (by assumption)
    refine GOps.r rfl rfl rfl rfl (grd_move rfl rfl) ?_
    refine GOps.no rfl ?_ rfl rfl ?_
    · simp; done
    refine GOps.no rfl ?_ rfl rfl ?_
    · simp; done
    refine GOps.no rfl ?_ rfl rfl ?_
    · simp; done
    refine GOps.no rfl ?_ rfl rfl ?_
    · simp; done
    refine GOps.r rfl rfl rfl rfl (grd_pick_t rfl rfl ?_ rfl) ?_
    · with_reducible rfl
    refine GOps.r rfl rfl rfl rfl (grd_move rfl rfl) ?_
    refine GOps.no rfl ?_ rfl rfl ?_
    · simp; done
    refine GOps.no rfl ?_ rfl rfl ?_
    · simp; done
    refine GOps.no rfl ?_ rfl rfl ?_
    · simp; done
    refine GOps.no rfl ?_ rfl rfl ?_
    · simp; done
    refine GOps.r rfl rfl rfl rfl (grd_pick_t rfl rfl ?_ rfl) ?_
    · with_reducible rfl
    refine GOps.nil ?_
    refine GWP.cond_t rfl ?_ ?_
    · with_reducible rfl
    refine GWP.seq ?_
    refine GWP.region ?_
    focus
      refine GOps.r rfl rfl rfl rfl (grd_build (cs := ?_) tab_is rfl rfl rfl ?_ rfl ?_) ?_
      rotate_left 1
      · decide
      · simp [gfill, gsets, Value.cells]; rfl
    focus
      refine GOps.s rfl rfl rfl (gop_storeC (b := ?_) (cs := ?_) tab_is rfl rfl ?_ rfl rfl ?_ ?_ ?_ ?_ ?_ ?_) ?_
      rotate_left 2
      · rfl
      · rfl
      · exact Hp.at_push_eq
      · rfl
      · decide
      · exact .inr (by simp)
      · simp [splice, Value.cells]; rfl
    refine GOps.r rfl rfl rfl rfl (grd_assign rfl rfl) ?_
    refine GOps.nil ?_
    refine GWP.ret ?_
    focus
      refine ⟨_, (.two (gres_cellNK (b := ?_) (cs := ?_) rfl rfl rfl ?_ ?_ ?_) (.one rfl)), ?_⟩
      rotate_left 2
      refine Hp.at_put_eq ?_
      · simp; done
      · decide
      · simp [Value.cells]; rfl
    refine ⟨?_, ?_⟩
    · rfl
    refine HExt.put ?_ ?_
    refine HExt.push ?_
    · exact HExt.refl _ _
    · exact .inr (by omega)
def top40 : Nat := 1099511627776
/-- The record of bytes, without their sum. -/
def parO : List UInt8 → Option RecS
  | [] => none
  | k :: M =>
    if k.toNat = 1 then
      let r1 := RdS.number ⟨M, 0⟩ top40
      let r2 := r1.2.number top40
      if r2.2.fin ≠ 0 then none else some ⟨1, r1.1, r2.1, 0, 0, [], 0, 0, 0⟩
    else if k.toNat = 2 then
      let q := next M
      if q.2.2 ≠ 0 ∨ 256 ≤ q.1 then none else
        let D := M.drop q.2.1
        if 1 ≤ D.length / 32 ∧ D.length / 32 ≤ 4 ∧ D.length % 32 = 0 ∧ q.1 + D.length / 32 ≤ 256 then some ⟨2, 0, 0, q.1, ((q.1 + D.length / 32 : Nat) : Int), D, 0, 0, 0⟩ else none
    else if k.toNat = 3 then
      let r1 := RdS.number ⟨M, 0⟩ 255
      let r2 := r1.2.number 256
      if (r2.2.e = 0 ∧ r2.1 ≤ r1.1) ∨ r2.2.fin ≠ 0 then none else some ⟨3, 0, 0, r1.1, r2.1, [], 0, 0, 0⟩
    else if k.toNat = 4 then
      let r1 := RdS.number ⟨M, 0⟩ top40
      let r2 := r1.2.number top40
      let r3 := r2.2.number 2305843009213693950
      if r3.2.fin ≠ 0 then none else some ⟨4, 0, 0, 0, 0, [], r1.1, r2.1, r3.1⟩
    else none
set_option maxHeartbeats 4000000 in
set_option maxRecDepth 100000 in
set_option linter.unusedSimpArgs false in
theorem g_numG (s : RdS) (m : Nat) (r : Nat × RdS) (h : s.number m = r) (mi : Int) (hm : mi = (m : Int)) (H : Hp) (g : Nat) (p : Option Addr) (c : Nat) (hr : RG 81 H g p c s) : GCalls Try.prog 24 [.pointer (some ⟨g, 0, none⟩), .int .u64 mi] [g] H fun v H' => v = .int .u64 (r.1 : Int) ∧ (∃ p' c', RG 81 H' g p' c' r.2) ∧ BSk H H' ∧ HExt [g] H H' := by
  subst h hm
  exact g_number H g p c s (m : Int) (by omega) hr
theorem numG_le {s : RdS} {m : Nat} {r : Nat × RdS} (h : s.number m = r) : r.1 ≤ m := by
  subst h
  exact number_le' s m
set_option maxHeartbeats 4000000 in
set_option maxRecDepth 100000 in
set_option linter.unusedSimpArgs false in
theorem g_parse1 (H : Hp) (p : Option Addr) (n c : Nat) (M : List UInt8) (hb : BS H (.slice p n c) (1 :: M)) (hn : n ≤ 35184372088832) (r1 r2 : Nat × RdS) (h1 : RdS.number ⟨M, 0⟩ 1099511627776 = r1) (h2 : r1.2.number 1099511627776 = r2) : GCalls Try.prog 34 [.slice p n c] [] H fun v H' => v = (if r2.2.fin ≠ 0 then .tuple #[recV 0 0 0 0 0 (.slice none 0 0) 0 0 0, .int .i64 3] else .tuple #[recV 1 r1.1 r2.1 0 0 (.slice none 0 0) 0 0 0, .int .i64 0]) ∧ HExt [] H H' := by
  have hl := hb.len
  simp only [List.length_cons] at hl
  subst hl
  have t1 := numG_le h1
  have t2 := numG_le h2
  refine GCalls.body tab_is Try.func34 rfl Try.results34 Try.ntmps34 (by simp) ?_ ?_
  · first | (intro _ h; cases h; done) | (simp; done) | (simp; omega) | (intro i hi; simp at hi; rcases hi with rfl | rfl <;> omega) | (intro i hi; simp at hi; rcases hi with rfl | rfl | rfl <;> omega)
  focus
    refine GWP.seq ?_
    refine GWP.region ?_
    focus
      refine GOps.w1 rfl rfl rfl rfl (gop_alloc' (id := ?_) ?_ tab_is rfl rfl ?_) ?_
      rotate_left 1
      · rfl
      · decide
    refine GOps.r rfl rfl rfl rfl (grd_assign rfl rfl) ?_
    refine GOps.nil ?_
    refine GWP.seq ?_
    refine GWP.seq ?_
    refine GWP.region ?_
    refine GOps.r rfl rfl rfl rfl (grd_move rfl rfl) ?_
    refine GOps.r rfl rfl rfl rfl (grd_len tab_is rfl rfl rfl rfl rfl) ?_
    refine GOps.r rfl rfl rfl rfl (grd_eql rfl rfl rfl) ?_
    refine GOps.nil ?_
    refine GWP.cond_f rfl ?_ ?_
    · exact decide_eq_false (by omega)
    refine GWP.skip ?_
    refine GWP.seq ?_
    refine GWP.region ?_
    refine GOps.r rfl rfl rfl rfl (grd_move rfl rfl) ?_
    focus
      refine gops_bs rfl rfl rfl rfl (grd_slBS (l := ?_) (h := ?_) (m2 := ?_) (L := ?_) (M := ?_) tab_is rfl rfl rfl rfl ?_ ?_ ?_ ?_ ?_ ?_ ?_) ?_
      rotate_left 5
      focus
        refine BS.ext (by assumption) ?_
        refine HExt.push ?_
        · exact HExt.refl _ _
      · refine gbound_const ?_; exact rfl
      · exact rfl
      · exact Nat.le_of_ble_eq_true rfl
      · omega
      · simp; rfl
      · refine Eq.trans (List.take_of_length_le ?_) ?_; rotate_left 1; rfl; (simp; done)
    intro pc1 cc1 c1
    have c1n := BS.len c1
    focus
      refine GOps.w rfl rfl rfl rfl (gop_call rfl Try.call17 rfl ?_ (g_vopen _ _ _ _ ?_ ?_ ?_)) ?_
      · intro _ h; cases h; done
      rotate_left 1
      · assumption
      · omega
    rintro _ Hxc7 ⟨⟨gc2, pc3, cc4, rfl, lc5, rc6⟩, xc7⟩
    simp at lc5
    have xc7l := HExt.len xc7; try simp at xc7l
    have rc6g := RG.hg rc6; unfold rdBlk at rc6g; have rc6q := Hp.at_lt rc6g
    refine GOps.r rfl rfl rfl rfl (grd_assign rfl rfl) ?_
    refine GOps.nil ?_
    refine GWP.seq ?_
    refine GWP.region ?_
    refine GOps.r rfl rfl rfl rfl (grd_move rfl rfl) ?_
    focus
      refine GOps.r rfl rfl rfl rfl (grd_indexBS (q := ?_) (L := ?_) tab_is rfl rfl rfl rfl rfl ?_ ?_ ?_) ?_
      rotate_left 2
      focus
        refine BS.ext (by assumption) ?_
        refine HExt.tr ?_ (by assumption) ?_
        refine HExt.push ?_
        · exact HExt.refl _ _
        · intro _ h; cases h; done
      · rfl
      · exact Nat.le_of_ble_eq_true rfl
    focus
      refine GOps.re rfl rfl rfl rfl (grd_loadBSK (n := ?_) (c := ?_) (L := ?_) (u := ?_) tab_is rfl rfl rfl rfl ?_ ?_ ?_) ?_
      rotate_left 4
      focus
        refine BS.ext (by assumption) ?_
        refine HExt.tr ?_ (by assumption) ?_
        refine HExt.push ?_
        · exact HExt.refl _ _
        · intro _ h; cases h; done
      · exact Nat.le_of_ble_eq_true rfl
      · simp only [List.getD_cons_zero]; rfl
    focus
      refine GOps.r rfl rfl rfl rfl (grd_build (cs := ?_) tab_is rfl rfl rfl ?_ rfl ?_) ?_
      rotate_left 1
      · decide
      · simp [gfill, gsets, Value.cells]; rfl
    focus
      refine GOps.w1 rfl rfl rfl rfl (gop_alloc' (id := ?_) ?_ tab_is rfl rfl ?_) ?_
      rotate_left 1
      · rfl
      · decide
    focus
      refine GOps.s rfl rfl rfl (gop_storeC (b := ?_) (cs := ?_) tab_is rfl rfl ?_ rfl rfl ?_ ?_ ?_ ?_ ?_ ?_) ?_
      rotate_left 2
      · rfl
      · rfl
      · exact Hp.at_push_eq
      · rfl
      · decide
      · exact .inr (by simp; omega)
      · simp [splice, Value.cells]; rfl
    refine GOps.nil ?_
    refine GWP.seq ?_
    refine GWP.seq ?_
    refine GWP.region ?_
    refine GOps.r rfl rfl rfl rfl (grd_fieldAddr tab_is rfl rfl rfl rfl rfl) ?_
    focus
      refine GOps.r rfl rfl rfl rfl (grd_load1 (b := ?_) (v := ?_) tab_is rfl rfl rfl rfl ?_ ?_) ?_
      rotate_left 2
      refine Hp.at_put_eq ?_
      · simp; done
      · rfl
    refine GOps.nil ?_
    refine GWP.block ?_
    refine GWP.seq ?_
    refine GWP.region ?_
    refine GOps.r rfl rfl rfl rfl (grd_eql rfl rfl rfl) ?_
    refine GOps.r rfl rfl rfl rfl (grd_assign rfl rfl) ?_
    refine GOps.nil ?_
    refine GWP.cond_t rfl ?_ ?_
    · exact decide_eq_true (by omega)
    refine GWP.region ?_
    refine GOps.r rfl rfl rfl rfl (grd_move rfl rfl) ?_
    focus
      refine GOps.w rfl rfl rfl rfl (gop_call rfl Try.call24 rfl ?_ (g_numG _ _ _ h1 _ ?_ _ _ ?_ ?_ ?_)) ?_
      · simp [Ctx.may]; omega
      · omega
      rotate_left 2
      refine rg_ext (by assumption) ?_
      refine HExt.put ?_ ?_
      refine HExt.push ?_
      · exact HExt.refl _ _
      · exact .inr (by omega)
    rintro _ Hxc12 ⟨rfl, ⟨pc8, cc9, rc10⟩, kc11, xc12⟩
    have xc12l := HExt.len xc12; try simp at xc12l
    have rc10g := RG.hg rc10; unfold rdBlk at rc10g; have rc10q := Hp.at_lt rc10g
    refine GOps.r rfl rfl rfl rfl (grd_conv_in tab_is rfl rfl rfl rfl rfl ?_) ?_
    · refine wrap_i64_in ?_; omega
    refine GOps.r rfl rfl rfl rfl (grd_move rfl rfl) ?_
    focus
      refine GOps.w rfl rfl rfl rfl (gop_call rfl Try.call24 rfl ?_ (g_numG _ _ _ h2 _ ?_ _ _ ?_ ?_ ?_)) ?_
      · simp [Ctx.may]; omega
      · omega
      rotate_left 2
      · assumption
    rintro _ Hxc17 ⟨rfl, ⟨pc13, cc14, rc15⟩, kc16, xc17⟩
    have xc17l := HExt.len xc17; try simp at xc17l
    have rc15g := RG.hg rc15; unfold rdBlk at rc15g; have rc15q := Hp.at_lt rc15g
    refine GOps.r rfl rfl rfl rfl (grd_conv_in tab_is rfl rfl rfl rfl rfl ?_) ?_
    · refine wrap_i64_in ?_; omega
    refine GOps.r rfl rfl rfl rfl (grd_fieldAddr tab_is rfl rfl rfl rfl rfl) ?_
    focus
      refine GOps.s rfl rfl rfl (gop_store1 (b := ?_) tab_is rfl rfl rfl rfl rfl rfl ?_ ?_ ?_ ?_) ?_
      rotate_left 1
      refine (HExt.eq (by assumption) _ ?_ ?_).trans ?_
      · omega
      · simp; omega
      refine (HExt.eq (by assumption) _ ?_ ?_).trans ?_
      · simp; done
      · simp; omega
      refine Hp.at_put_eq ?_
      · simp; done
      · rfl
      · decide
      · exact .inr (by simp; omega)
    refine GOps.r rfl rfl rfl rfl (grd_fieldAddr tab_is rfl rfl rfl rfl rfl) ?_
    focus
      refine GOps.s rfl rfl rfl (gop_store1 (b := ?_) tab_is rfl rfl rfl rfl rfl rfl ?_ ?_ ?_ ?_) ?_
      rotate_left 1
      refine Hp.at_put_eq ?_
      · omega
      · rfl
      · exact Nat.le_of_ble_eq_true rfl
      · exact .inr (by simp; omega)
    refine GOps.nil ?_
    refine GWP.seq ?_
    refine GWP.seq ?_
    refine GWP.region ?_
    refine GOps.r rfl rfl rfl rfl (grd_move rfl rfl) ?_
    focus
      refine GOps.w1 rfl rfl rfl rfl (gop_call rfl Try.call25 rfl ?_ (g_end _ _ ?_ ?_ ?_ ?_)) ?_
      · intro _ h; cases h; done
      rotate_left 3
      refine rg_ne (b := ?_) ?_ ?_ ?_ ?_
      rotate_left 1
      focus
        refine rg_ne (b := ?_) ?_ ?_ ?_ ?_
        rotate_left 1
        focus
          · assumption
        refine (HExt.eq (by assumption) _ ?_ ?_).trans ?_
        · omega
        · simp; omega
        refine (HExt.eq (by assumption) _ ?_ ?_).trans ?_
        · simp; done
        · simp; omega
        refine Hp.at_put_eq ?_
        · simp; done
        · omega
        · rfl
      refine Hp.at_put_eq ?_
      · omega
      · omega
      · rfl
    refine GOps.r rfl rfl rfl rfl (grd_neq rfl rfl rfl) ?_
    refine GOps.nil ?_
    refine GWP.cond rfl (fun c18 => ?_) (fun c18 => ?_)
    simp only [beq_true, beq_false, Bool.not_true, Bool.not_false, Bool.not_eq_true', Bool.not_eq_false', decide_eq_true_eq, decide_eq_false_iff_not] at c18
    refine GWP.seq ?_
    refine GWP.region ?_
    focus
      refine GOps.r rfl rfl rfl rfl (grd_build (cs := ?_) tab_is rfl rfl rfl ?_ rfl ?_) ?_
      rotate_left 1
      · decide
      · simp [gfill, gsets, Value.cells]; rfl
    focus
      refine GOps.s rfl rfl rfl (gop_storeC (b := ?_) (cs := ?_) tab_is rfl rfl ?_ rfl rfl ?_ ?_ ?_ ?_ ?_ ?_) ?_
      rotate_left 2
      · rfl
      · rfl
      refine (Hp.at_put_ne ?_).trans ?_
      · omega
      refine (Hp.at_put_ne ?_).trans ?_
      · omega
      refine (HExt.eq (by assumption) _ ?_ ?_).trans ?_
      · omega
      · simp; omega
      refine (HExt.eq (by assumption) _ ?_ ?_).trans ?_
      · simp; omega
      · simp; omega
      refine (Hp.at_put_ne ?_).trans ?_
      · omega
      refine (Hp.at_push_lt ?_).trans ?_
      · omega
      refine (HExt.eq (by assumption) _ ?_ ?_).trans ?_
      · simp; done
      · intro h; cases h; done
      · exact Hp.at_push_eq
      · rfl
      · decide
      · exact .inr (by simp)
      · simp [splice, Value.cells]; rfl
    refine GOps.r rfl rfl rfl rfl (grd_assign rfl rfl) ?_
    refine GOps.nil ?_
    refine GWP.ret ?_
    focus
      refine ⟨_, (.two (gres_cellNK (b := ?_) (cs := ?_) rfl rfl rfl ?_ ?_ ?_) (.one rfl)), ?_⟩
      rotate_left 2
      refine Hp.at_put_eq ?_
      · simp; omega
      · decide
      · simp [Value.cells]; rfl
    refine ⟨?_, ?_⟩
    · rw [if_pos (by omega)]; rfl
    refine HExt.put ?_ ?_
    refine HExt.put ?_ ?_
    refine HExt.put ?_ ?_
    refine HExt.tr ?_ (by assumption) ?_
    refine HExt.tr ?_ (by assumption) ?_
    refine HExt.put ?_ ?_
    refine HExt.push ?_
    refine HExt.tr ?_ (by assumption) ?_
    refine HExt.push ?_
    · exact HExt.refl _ _
    · intro _ h; cases h; done
    · exact .inr (by omega)
    · simp; omega
    · simp; omega
    · exact .inr (by omega)
    · exact .inr (by omega)
    · exact .inr (by omega)
    simp only [beq_true, beq_false, Bool.not_true, Bool.not_false, Bool.not_eq_true', Bool.not_eq_false', decide_eq_true_eq, decide_eq_false_iff_not] at c18
    refine GWP.skip ?_
    refine GWP.seq ?_
    refine GWP.region ?_
    focus
      refine GOps.r rfl rfl rfl rfl (grd_loadNK (b := ?_) (cs := ?_) tab_is rfl rfl rfl rfl ?_ ?_ ?_) ?_
      rotate_left 2
      refine Hp.at_put_eq ?_
      · simp; omega
      · exact Nat.le_of_ble_eq_true rfl
      · simp [Value.cells]; rfl
    focus
      refine GOps.s rfl rfl rfl (gop_storeC (b := ?_) (cs := ?_) tab_is rfl rfl ?_ rfl rfl ?_ ?_ ?_ ?_ ?_ ?_) ?_
      rotate_left 2
      · rfl
      · rfl
      refine (Hp.at_put_ne ?_).trans ?_
      · omega
      refine (Hp.at_put_ne ?_).trans ?_
      · omega
      refine (HExt.eq (by assumption) _ ?_ ?_).trans ?_
      · omega
      · simp; omega
      refine (HExt.eq (by assumption) _ ?_ ?_).trans ?_
      · simp; omega
      · simp; omega
      refine (Hp.at_put_ne ?_).trans ?_
      · omega
      refine (Hp.at_push_lt ?_).trans ?_
      · omega
      refine (HExt.eq (by assumption) _ ?_ ?_).trans ?_
      · simp; done
      · intro h; cases h; done
      · exact Hp.at_push_eq
      · rfl
      · exact Nat.le_of_ble_eq_true rfl
      · exact .inr (by simp)
      · simp [splice, Value.cells]; rfl
    refine GOps.r rfl rfl rfl rfl (grd_assign rfl rfl) ?_
    refine GOps.nil ?_
    refine GWP.ret ?_
    focus
      refine ⟨_, (.two (gres_cellNK (b := ?_) (cs := ?_) rfl rfl rfl ?_ ?_ ?_) (.one rfl)), ?_⟩
      rotate_left 2
      refine Hp.at_put_eq ?_
      · simp; omega
      · exact Nat.le_of_ble_eq_true rfl
      · simp [Value.cells]; rfl
    refine ⟨?_, ?_⟩
    · rw [if_neg (by omega)]; rfl
    refine HExt.put ?_ ?_
    refine HExt.put ?_ ?_
    refine HExt.put ?_ ?_
    refine HExt.tr ?_ (by assumption) ?_
    refine HExt.tr ?_ (by assumption) ?_
    refine HExt.put ?_ ?_
    refine HExt.push ?_
    refine HExt.tr ?_ (by assumption) ?_
    refine HExt.push ?_
    · exact HExt.refl _ _
    · intro _ h; cases h; done
    · exact .inr (by omega)
    · simp; omega
    · simp; omega
    · exact .inr (by omega)
    · exact .inr (by omega)
    · exact .inr (by omega)
end Go.Proofs.Ytjlimdiimdihfaa

/- Records out of bytes: the other kinds. -/
namespace Go.Proofs.Ytjlimdiimdihfaa
open Go.RowKit

set_option maxHeartbeats 4000000 in
set_option maxRecDepth 100000 in
set_option linter.unusedSimpArgs false in
theorem g_parse3 (H : Hp) (p : Option Addr) (n c : Nat) (M : List UInt8) (hb : BS H (.slice p n c) (3 :: M)) (hn : n ≤ 35184372088832) (r1 r2 : Nat × RdS) (h1 : RdS.number ⟨M, 0⟩ 255 = r1) (h2 : r1.2.number 256 = r2) : GCalls Try.prog 34 [.slice p n c] [] H fun v H' => v = (if (r2.2.e = 0 ∧ r2.1 ≤ r1.1) ∨ r2.2.fin ≠ 0 then .tuple #[recV 0 0 0 0 0 (.slice none 0 0) 0 0 0, .int .i64 3] else .tuple #[recV 3 0 0 r1.1 r2.1 (.slice none 0 0) 0 0 0, .int .i64 0]) ∧ HExt [] H H' := by
  have hl := hb.len
  simp only [List.length_cons] at hl
  subst hl
  have t1 := numG_le h1
  have t2 := numG_le h2
  refine GCalls.body tab_is Try.func34 rfl Try.results34 Try.ntmps34 (by simp) ?_ ?_
  · first | (intro _ h; cases h; done) | (simp; done) | (simp; omega) | (intro i hi; simp at hi; rcases hi with rfl | rfl <;> omega) | (intro i hi; simp at hi; rcases hi with rfl | rfl | rfl <;> omega)
  focus
    refine GWP.seq ?_
    refine GWP.region ?_
    focus
      refine GOps.w1 rfl rfl rfl rfl (gop_alloc' (id := ?_) ?_ tab_is rfl rfl ?_) ?_
      rotate_left 1
      · rfl
      · decide
    refine GOps.r rfl rfl rfl rfl (grd_assign rfl rfl) ?_
    refine GOps.nil ?_
    refine GWP.seq ?_
    refine GWP.seq ?_
    refine GWP.region ?_
    refine GOps.r rfl rfl rfl rfl (grd_move rfl rfl) ?_
    refine GOps.r rfl rfl rfl rfl (grd_len tab_is rfl rfl rfl rfl rfl) ?_
    refine GOps.r rfl rfl rfl rfl (grd_eql rfl rfl rfl) ?_
    refine GOps.nil ?_
    refine GWP.cond_f rfl ?_ ?_
    · exact decide_eq_false (by omega)
    refine GWP.skip ?_
    refine GWP.seq ?_
    refine GWP.region ?_
    refine GOps.r rfl rfl rfl rfl (grd_move rfl rfl) ?_
    focus
      refine gops_bs rfl rfl rfl rfl (grd_slBS (l := ?_) (h := ?_) (m2 := ?_) (L := ?_) (M := ?_) tab_is rfl rfl rfl rfl ?_ ?_ ?_ ?_ ?_ ?_ ?_) ?_
      rotate_left 5
      focus
        refine BS.ext (by assumption) ?_
        refine HExt.push ?_
        · exact HExt.refl _ _
      · refine gbound_const ?_; exact rfl
      · exact rfl
      · exact Nat.le_of_ble_eq_true rfl
      · omega
      · simp; rfl
      · refine Eq.trans (List.take_of_length_le ?_) ?_; rotate_left 1; rfl; (simp; done)
    intro pa1 ca1 a1
    have a1n := BS.len a1
    focus
      refine GOps.w rfl rfl rfl rfl (gop_call rfl Try.call17 rfl ?_ (g_vopen _ _ _ _ ?_ ?_ ?_)) ?_
      · intro _ h; cases h; done
      rotate_left 1
      · assumption
      · omega
    rintro _ Hxa7 ⟨⟨ga2, pa3, ca4, rfl, la5, ra6⟩, xa7⟩
    simp at la5
    have xa7l := HExt.len xa7; try simp at xa7l
    have ra6g := RG.hg ra6; unfold rdBlk at ra6g; have ra6q := Hp.at_lt ra6g
    refine GOps.r rfl rfl rfl rfl (grd_assign rfl rfl) ?_
    refine GOps.nil ?_
    refine GWP.seq ?_
    refine GWP.region ?_
    refine GOps.r rfl rfl rfl rfl (grd_move rfl rfl) ?_
    focus
      refine GOps.r rfl rfl rfl rfl (grd_indexBS (q := ?_) (L := ?_) tab_is rfl rfl rfl rfl rfl ?_ ?_ ?_) ?_
      rotate_left 2
      focus
        refine BS.ext (by assumption) ?_
        refine HExt.tr ?_ (by assumption) ?_
        refine HExt.push ?_
        · exact HExt.refl _ _
        · intro _ h; cases h; done
      · rfl
      · exact Nat.le_of_ble_eq_true rfl
    focus
      refine GOps.re rfl rfl rfl rfl (grd_loadBSK (n := ?_) (c := ?_) (L := ?_) (u := ?_) tab_is rfl rfl rfl rfl ?_ ?_ ?_) ?_
      rotate_left 4
      focus
        refine BS.ext (by assumption) ?_
        refine HExt.tr ?_ (by assumption) ?_
        refine HExt.push ?_
        · exact HExt.refl _ _
        · intro _ h; cases h; done
      · exact Nat.le_of_ble_eq_true rfl
      · simp only [List.getD_cons_zero]; rfl
    focus
      refine GOps.r rfl rfl rfl rfl (grd_build (cs := ?_) tab_is rfl rfl rfl ?_ rfl ?_) ?_
      rotate_left 1
      · decide
      · simp [gfill, gsets, Value.cells]; rfl
    focus
      refine GOps.w1 rfl rfl rfl rfl (gop_alloc' (id := ?_) ?_ tab_is rfl rfl ?_) ?_
      rotate_left 1
      · rfl
      · decide
    focus
      refine GOps.s rfl rfl rfl (gop_storeC (b := ?_) (cs := ?_) tab_is rfl rfl ?_ rfl rfl ?_ ?_ ?_ ?_ ?_ ?_) ?_
      rotate_left 2
      · rfl
      · rfl
      · exact Hp.at_push_eq
      · rfl
      · decide
      · exact .inr (by simp; omega)
      · simp [splice, Value.cells]; rfl
    refine GOps.nil ?_
    refine GWP.seq ?_
    refine GWP.seq ?_
    refine GWP.region ?_
    refine GOps.r rfl rfl rfl rfl (grd_fieldAddr tab_is rfl rfl rfl rfl rfl) ?_
    focus
      refine GOps.r rfl rfl rfl rfl (grd_load1 (b := ?_) (v := ?_) tab_is rfl rfl rfl rfl ?_ ?_) ?_
      rotate_left 2
      refine Hp.at_put_eq ?_
      · simp; done
      · rfl
    refine GOps.nil ?_
    refine GWP.block ?_
    refine GWP.seq ?_
    refine GWP.region ?_
    refine GOps.r rfl rfl rfl rfl (grd_eql rfl rfl rfl) ?_
    refine GOps.r rfl rfl rfl rfl (grd_assign rfl rfl) ?_
    refine GOps.nil ?_
    refine GWP.cond_f rfl ?_ ?_
    · exact decide_eq_false (by omega)
    refine GWP.seq ?_
    refine GWP.region ?_
    refine GOps.r rfl rfl rfl rfl (grd_eql rfl rfl rfl) ?_
    refine GOps.r rfl rfl rfl rfl (grd_assign rfl rfl) ?_
    refine GOps.nil ?_
    refine GWP.cond_f rfl ?_ ?_
    · exact decide_eq_false (by omega)
    refine GWP.seq ?_
    refine GWP.region ?_
    refine GOps.r rfl rfl rfl rfl (grd_eql rfl rfl rfl) ?_
    refine GOps.r rfl rfl rfl rfl (grd_assign rfl rfl) ?_
    refine GOps.nil ?_
    refine GWP.cond_t rfl ?_ ?_
    · exact decide_eq_true (by omega)
    refine GWP.seq ?_
    refine GWP.region ?_
    refine GOps.r rfl rfl rfl rfl (grd_move rfl rfl) ?_
    focus
      refine GOps.w rfl rfl rfl rfl (gop_call rfl Try.call24 rfl ?_ (g_numG _ _ _ h1 _ ?_ _ _ ?_ ?_ ?_)) ?_
      · simp [Ctx.may]; omega
      · omega
      rotate_left 2
      refine rg_ext (by assumption) ?_
      refine HExt.put ?_ ?_
      refine HExt.push ?_
      · exact HExt.refl _ _
      · exact .inr (by omega)
    rintro _ Hxa12 ⟨rfl, ⟨pa8, ca9, ra10⟩, ka11, xa12⟩
    have xa12l := HExt.len xa12; try simp at xa12l
    have ra10g := RG.hg ra10; unfold rdBlk at ra10g; have ra10q := Hp.at_lt ra10g
    refine GOps.r rfl rfl rfl rfl (grd_conv_in tab_is rfl rfl rfl rfl rfl ?_) ?_
    · refine wrap_i64_in ?_; omega
    refine GOps.r rfl rfl rfl rfl (grd_fieldAddr tab_is rfl rfl rfl rfl rfl) ?_
    refine GOps.r rfl rfl rfl rfl (grd_fieldAddr tab_is rfl rfl rfl rfl rfl) ?_
    focus
      refine GOps.s rfl rfl rfl (gop_store1 (b := ?_) tab_is rfl rfl rfl rfl rfl rfl ?_ ?_ ?_ ?_) ?_
      rotate_left 1
      refine (HExt.eq (by assumption) _ ?_ ?_).trans ?_
      · simp; done
      · simp; omega
      refine Hp.at_put_eq ?_
      · simp; done
      · rfl
      · decide
      · exact .inr (by simp; omega)
    refine GOps.nil ?_
    refine GWP.seq ?_
    refine GWP.region ?_
    refine GOps.r rfl rfl rfl rfl (grd_move rfl rfl) ?_
    focus
      refine GOps.w rfl rfl rfl rfl (gop_call rfl Try.call24 rfl ?_ (g_numG _ _ _ h2 _ ?_ _ _ ?_ ?_ ?_)) ?_
      · simp [Ctx.may]; omega
      · omega
      rotate_left 2
      refine rg_ne (b := ?_) ?_ ?_ ?_ ?_
      rotate_left 1
      focus
        · assumption
      refine (HExt.eq (by assumption) _ ?_ ?_).trans ?_
      · simp; done
      · simp; omega
      refine Hp.at_put_eq ?_
      · simp; done
      · omega
      · rfl
    rintro _ Hxa17 ⟨rfl, ⟨pa13, ca14, ra15⟩, ka16, xa17⟩
    have xa17l := HExt.len xa17; try simp at xa17l
    have ra15g := RG.hg ra15; unfold rdBlk at ra15g; have ra15q := Hp.at_lt ra15g
    refine GOps.r rfl rfl rfl rfl (grd_conv_in tab_is rfl rfl rfl rfl rfl ?_) ?_
    · refine wrap_i64_in ?_; omega
    refine GOps.r rfl rfl rfl rfl (grd_fieldAddr tab_is rfl rfl rfl rfl rfl) ?_
    refine GOps.r rfl rfl rfl rfl (grd_fieldAddr tab_is rfl rfl rfl rfl rfl) ?_
    focus
      refine GOps.s rfl rfl rfl (gop_store1 (b := ?_) tab_is rfl rfl rfl rfl rfl rfl ?_ ?_ ?_ ?_) ?_
      rotate_left 1
      refine (HExt.eq (by assumption) _ ?_ ?_).trans ?_
      · simp; omega
      · simp; omega
      refine Hp.at_put_eq ?_
      · omega
      · rfl
      · exact Nat.le_of_ble_eq_true rfl
      · exact .inr (by simp; omega)
    refine GOps.nil ?_
    refine GWP.seq ?_
    refine GWP.region ?_
    refine GOps.r rfl rfl rfl rfl (grd_move rfl rfl) ?_
    focus
      refine GOps.w1 rfl rfl rfl rfl (gop_call rfl Try.call33 rfl ?_ (g_failed _ _ ?_ ?_ ?_ ?_)) ?_
      · intro _ h; cases h; done
      rotate_left 3
      refine rg_ne (b := ?_) ?_ ?_ ?_ ?_
      rotate_left 1
      focus
        · assumption
      refine (HExt.eq (by assumption) _ ?_ ?_).trans ?_
      · simp; omega
      · simp; omega
      refine Hp.at_put_eq ?_
      · omega
      · omega
      · rfl
    refine GOps.r rfl rfl rfl rfl (grd_eql rfl rfl rfl) ?_
    refine GOps.r rfl rfl rfl rfl (grd_move rfl rfl) ?_
    refine GOps.split rfl rfl (fun a18 => ?_) (fun a18 => ?_)
    simp only [beq_true, beq_false, Bool.not_true, Bool.not_false, Bool.not_eq_true', Bool.not_eq_false', decide_eq_true_eq, decide_eq_false_iff_not] at a18
    refine GOps.take rfl rfl ?_ ?_
    · exact beq_iff_eq.2 (decide_eq_true (by assumption))
    refine GOps.r rfl rfl rfl rfl (grd_fieldAddr tab_is rfl rfl rfl rfl rfl) ?_
    refine GOps.take rfl rfl ?_ ?_
    · exact beq_iff_eq.2 (decide_eq_true (by assumption))
    refine GOps.r rfl rfl rfl rfl (grd_fieldAddr tab_is rfl rfl rfl rfl rfl) ?_
    refine GOps.take rfl rfl ?_ ?_
    · exact beq_iff_eq.2 (decide_eq_true (by assumption))
    focus
      refine GOps.r rfl rfl rfl rfl (grd_load1 (b := ?_) (v := ?_) tab_is rfl rfl rfl rfl ?_ ?_) ?_
      rotate_left 2
      refine Hp.at_put_eq ?_
      · omega
      · rfl
    refine GOps.take rfl rfl ?_ ?_
    · exact beq_iff_eq.2 (decide_eq_true (by assumption))
    refine GOps.r rfl rfl rfl rfl (grd_fieldAddr tab_is rfl rfl rfl rfl rfl) ?_
    refine GOps.take rfl rfl ?_ ?_
    · exact beq_iff_eq.2 (decide_eq_true (by assumption))
    refine GOps.r rfl rfl rfl rfl (grd_fieldAddr tab_is rfl rfl rfl rfl rfl) ?_
    refine GOps.take rfl rfl ?_ ?_
    · exact beq_iff_eq.2 (decide_eq_true (by assumption))
    focus
      refine GOps.r rfl rfl rfl rfl (grd_load1 (b := ?_) (v := ?_) tab_is rfl rfl rfl rfl ?_ ?_) ?_
      rotate_left 2
      refine Hp.at_put_eq ?_
      · omega
      · rfl
    refine GOps.take rfl rfl ?_ ?_
    · exact beq_iff_eq.2 (decide_eq_true (by assumption))
    refine GOps.r rfl rfl rfl rfl (grd_leq rfl rfl rfl) ?_
    refine GOps.r rfl rfl rfl rfl (grd_pick_t rfl rfl ?_ rfl) ?_
    · exact decide_eq_true (by assumption)
    refine GOps.nil ?_
    refine GWP.cond rfl (fun a19 => ?_) (fun a19 => ?_)
    simp only [beq_true, beq_false, Bool.not_true, Bool.not_false, Bool.not_eq_true', Bool.not_eq_false', decide_eq_true_eq, decide_eq_false_iff_not] at a19
    refine GWP.seq ?_
    refine GWP.region ?_
    focus
      refine GOps.r rfl rfl rfl rfl (grd_build (cs := ?_) tab_is rfl rfl rfl ?_ rfl ?_) ?_
      rotate_left 1
      · decide
      · simp [gfill, gsets, Value.cells]; rfl
    focus
      refine GOps.s rfl rfl rfl (gop_storeC (b := ?_) (cs := ?_) tab_is rfl rfl ?_ rfl rfl ?_ ?_ ?_ ?_ ?_ ?_) ?_
      rotate_left 2
      · rfl
      · rfl
      refine (Hp.at_put_ne ?_).trans ?_
      · omega
      refine (HExt.eq (by assumption) _ ?_ ?_).trans ?_
      · simp; omega
      · simp; omega
      refine (Hp.at_put_ne ?_).trans ?_
      · omega
      refine (HExt.eq (by assumption) _ ?_ ?_).trans ?_
      · simp; omega
      · simp; omega
      refine (Hp.at_put_ne ?_).trans ?_
      · omega
      refine (Hp.at_push_lt ?_).trans ?_
      · omega
      refine (HExt.eq (by assumption) _ ?_ ?_).trans ?_
      · simp; done
      · intro h; cases h; done
      · exact Hp.at_push_eq
      · rfl
      · decide
      · exact .inr (by simp)
      · simp [splice, Value.cells]; rfl
    refine GOps.r rfl rfl rfl rfl (grd_assign rfl rfl) ?_
    refine GOps.nil ?_
    refine GWP.ret ?_
    focus
      refine ⟨_, (.two (gres_cellNK (b := ?_) (cs := ?_) rfl rfl rfl ?_ ?_ ?_) (.one rfl)), ?_⟩
      rotate_left 2
      refine Hp.at_put_eq ?_
      · simp; omega
      · decide
      · simp [Value.cells]; rfl
    refine ⟨?_, ?_⟩
    · rw [if_pos (.inl (by omega))]; rfl
    refine HExt.put ?_ ?_
    refine HExt.put ?_ ?_
    refine HExt.tr ?_ (by assumption) ?_
    refine HExt.put ?_ ?_
    refine HExt.tr ?_ (by assumption) ?_
    refine HExt.put ?_ ?_
    refine HExt.push ?_
    refine HExt.tr ?_ (by assumption) ?_
    refine HExt.push ?_
    · exact HExt.refl _ _
    · intro _ h; cases h; done
    · exact .inr (by omega)
    · simp; omega
    · exact .inr (by omega)
    · simp; omega
    · exact .inr (by omega)
    · exact .inr (by omega)
    simp only [beq_true, beq_false, Bool.not_true, Bool.not_false, Bool.not_eq_true', Bool.not_eq_false', decide_eq_true_eq, decide_eq_false_iff_not] at a19
    refine GWP.skip ?_
    refine GWP.seq ?_
    refine GWP.seq ?_
    refine GWP.region ?_
    refine GOps.r rfl rfl rfl rfl (grd_move rfl rfl) ?_
    focus
      refine GOps.w1 rfl rfl rfl rfl (gop_call rfl Try.call25 rfl ?_ (g_end _ _ ?_ ?_ ?_ ?_)) ?_
      · intro _ h; cases h; done
      rotate_left 3
      refine rg_ne (b := ?_) ?_ ?_ ?_ ?_
      rotate_left 1
      focus
        · assumption
      refine (HExt.eq (by assumption) _ ?_ ?_).trans ?_
      · simp; omega
      · simp; omega
      refine Hp.at_put_eq ?_
      · omega
      · omega
      · rfl
    refine GOps.r rfl rfl rfl rfl (grd_neq rfl rfl rfl) ?_
    refine GOps.nil ?_
    refine GWP.cond rfl (fun a20 => ?_) (fun a20 => ?_)
    simp only [beq_true, beq_false, Bool.not_true, Bool.not_false, Bool.not_eq_true', Bool.not_eq_false', decide_eq_true_eq, decide_eq_false_iff_not] at a20
    refine GWP.seq ?_
    refine GWP.region ?_
    focus
      refine GOps.r rfl rfl rfl rfl (grd_build (cs := ?_) tab_is rfl rfl rfl ?_ rfl ?_) ?_
      rotate_left 1
      · decide
      · simp [gfill, gsets, Value.cells]; rfl
    focus
      refine GOps.s rfl rfl rfl (gop_storeC (b := ?_) (cs := ?_) tab_is rfl rfl ?_ rfl rfl ?_ ?_ ?_ ?_ ?_ ?_) ?_
      rotate_left 2
      · rfl
      · rfl
      refine (Hp.at_put_ne ?_).trans ?_
      · omega
      refine (HExt.eq (by assumption) _ ?_ ?_).trans ?_
      · simp; omega
      · simp; omega
      refine (Hp.at_put_ne ?_).trans ?_
      · omega
      refine (HExt.eq (by assumption) _ ?_ ?_).trans ?_
      · simp; omega
      · simp; omega
      refine (Hp.at_put_ne ?_).trans ?_
      · omega
      refine (Hp.at_push_lt ?_).trans ?_
      · omega
      refine (HExt.eq (by assumption) _ ?_ ?_).trans ?_
      · simp; done
      · intro h; cases h; done
      · exact Hp.at_push_eq
      · rfl
      · decide
      · exact .inr (by simp)
      · simp [splice, Value.cells]; rfl
    refine GOps.r rfl rfl rfl rfl (grd_assign rfl rfl) ?_
    refine GOps.nil ?_
    refine GWP.ret ?_
    focus
      refine ⟨_, (.two (gres_cellNK (b := ?_) (cs := ?_) rfl rfl rfl ?_ ?_ ?_) (.one rfl)), ?_⟩
      rotate_left 2
      refine Hp.at_put_eq ?_
      · simp; omega
      · decide
      · simp [Value.cells]; rfl
    refine ⟨?_, ?_⟩
    · rw [if_pos (.inr (by omega))]; rfl
    refine HExt.put ?_ ?_
    refine HExt.put ?_ ?_
    refine HExt.tr ?_ (by assumption) ?_
    refine HExt.put ?_ ?_
    refine HExt.tr ?_ (by assumption) ?_
    refine HExt.put ?_ ?_
    refine HExt.push ?_
    refine HExt.tr ?_ (by assumption) ?_
    refine HExt.push ?_
    · exact HExt.refl _ _
    · intro _ h; cases h; done
    · exact .inr (by omega)
    · simp; omega
    · exact .inr (by omega)
    · simp; omega
    · exact .inr (by omega)
    · exact .inr (by omega)
    simp only [beq_true, beq_false, Bool.not_true, Bool.not_false, Bool.not_eq_true', Bool.not_eq_false', decide_eq_true_eq, decide_eq_false_iff_not] at a20
    refine GWP.skip ?_
    refine GWP.seq ?_
    refine GWP.region ?_
    focus
      refine GOps.r rfl rfl rfl rfl (grd_loadNK (b := ?_) (cs := ?_) tab_is rfl rfl rfl rfl ?_ ?_ ?_) ?_
      rotate_left 2
      refine Hp.at_put_eq ?_
      · omega
      · exact Nat.le_of_ble_eq_true rfl
      · simp [Value.cells]; rfl
    focus
      refine GOps.s rfl rfl rfl (gop_storeC (b := ?_) (cs := ?_) tab_is rfl rfl ?_ rfl rfl ?_ ?_ ?_ ?_ ?_ ?_) ?_
      rotate_left 2
      · rfl
      · rfl
      refine (Hp.at_put_ne ?_).trans ?_
      · omega
      refine (HExt.eq (by assumption) _ ?_ ?_).trans ?_
      · simp; omega
      · simp; omega
      refine (Hp.at_put_ne ?_).trans ?_
      · omega
      refine (HExt.eq (by assumption) _ ?_ ?_).trans ?_
      · simp; omega
      · simp; omega
      refine (Hp.at_put_ne ?_).trans ?_
      · omega
      refine (Hp.at_push_lt ?_).trans ?_
      · omega
      refine (HExt.eq (by assumption) _ ?_ ?_).trans ?_
      · simp; done
      · intro h; cases h; done
      · exact Hp.at_push_eq
      · rfl
      · exact Nat.le_of_ble_eq_true rfl
      · exact .inr (by simp)
      · simp [splice, Value.cells]; rfl
    refine GOps.r rfl rfl rfl rfl (grd_assign rfl rfl) ?_
    refine GOps.nil ?_
    refine GWP.ret ?_
    focus
      refine ⟨_, (.two (gres_cellNK (b := ?_) (cs := ?_) rfl rfl rfl ?_ ?_ ?_) (.one rfl)), ?_⟩
      rotate_left 2
      refine Hp.at_put_eq ?_
      · simp; omega
      · exact Nat.le_of_ble_eq_true rfl
      · simp [Value.cells]; rfl
    refine ⟨?_, ?_⟩
    · rw [if_neg (by omega)]; rfl
    refine HExt.put ?_ ?_
    refine HExt.put ?_ ?_
    refine HExt.tr ?_ (by assumption) ?_
    refine HExt.put ?_ ?_
    refine HExt.tr ?_ (by assumption) ?_
    refine HExt.put ?_ ?_
    refine HExt.push ?_
    refine HExt.tr ?_ (by assumption) ?_
    refine HExt.push ?_
    · exact HExt.refl _ _
    · intro _ h; cases h; done
    · exact .inr (by omega)
    · simp; omega
    · exact .inr (by omega)
    · simp; omega
    · exact .inr (by omega)
    · exact .inr (by omega)
    simp only [beq_true, beq_false, Bool.not_true, Bool.not_false, Bool.not_eq_true', Bool.not_eq_false', decide_eq_true_eq, decide_eq_false_iff_not] at a18
    refine GOps.no rfl ?_ rfl rfl ?_
    · exact beq_eq_false_iff_ne.2 (by rw [decide_eq_false (by assumption)]; decide)
    refine GOps.no rfl ?_ rfl rfl ?_
    · exact beq_eq_false_iff_ne.2 (by rw [decide_eq_false (by assumption)]; decide)
    refine GOps.no rfl ?_ rfl rfl ?_
    · exact beq_eq_false_iff_ne.2 (by rw [decide_eq_false (by assumption)]; decide)
    refine GOps.no rfl ?_ rfl rfl ?_
    · exact beq_eq_false_iff_ne.2 (by rw [decide_eq_false (by assumption)]; decide)
    refine GOps.no rfl ?_ rfl rfl ?_
    · exact beq_eq_false_iff_ne.2 (by rw [decide_eq_false (by assumption)]; decide)
    refine GOps.no rfl ?_ rfl rfl ?_
    · exact beq_eq_false_iff_ne.2 (by rw [decide_eq_false (by assumption)]; decide)
    refine GOps.no rfl ?_ rfl rfl ?_
    · exact beq_eq_false_iff_ne.2 (by rw [decide_eq_false (by assumption)]; decide)
    refine GOps.r rfl rfl rfl rfl (grd_pick_f rfl rfl ?_ rfl) ?_
    · exact decide_eq_false (by assumption)
    refine GOps.nil ?_
    refine GWP.cond_f rfl ?_ ?_
    · with_reducible rfl
    refine GWP.skip ?_
    refine GWP.seq ?_
    refine GWP.seq ?_
    refine GWP.region ?_
    refine GOps.r rfl rfl rfl rfl (grd_move rfl rfl) ?_
    focus
      refine GOps.w1 rfl rfl rfl rfl (gop_call rfl Try.call25 rfl ?_ (g_end _ _ ?_ ?_ ?_ ?_)) ?_
      · intro _ h; cases h; done
      rotate_left 3
      refine rg_ne (b := ?_) ?_ ?_ ?_ ?_
      rotate_left 1
      focus
        · assumption
      refine (HExt.eq (by assumption) _ ?_ ?_).trans ?_
      · simp; omega
      · simp; omega
      refine Hp.at_put_eq ?_
      · omega
      · omega
      · rfl
    refine GOps.r rfl rfl rfl rfl (grd_neq rfl rfl rfl) ?_
    refine GOps.nil ?_
    refine GWP.cond rfl (fun a21 => ?_) (fun a21 => ?_)
    simp only [beq_true, beq_false, Bool.not_true, Bool.not_false, Bool.not_eq_true', Bool.not_eq_false', decide_eq_true_eq, decide_eq_false_iff_not] at a21
    refine GWP.seq ?_
    refine GWP.region ?_
    focus
      refine GOps.r rfl rfl rfl rfl (grd_build (cs := ?_) tab_is rfl rfl rfl ?_ rfl ?_) ?_
      rotate_left 1
      · decide
      · simp [gfill, gsets, Value.cells]; rfl
    focus
      refine GOps.s rfl rfl rfl (gop_storeC (b := ?_) (cs := ?_) tab_is rfl rfl ?_ rfl rfl ?_ ?_ ?_ ?_ ?_ ?_) ?_
      rotate_left 2
      · rfl
      · rfl
      refine (Hp.at_put_ne ?_).trans ?_
      · omega
      refine (HExt.eq (by assumption) _ ?_ ?_).trans ?_
      · simp; omega
      · simp; omega
      refine (Hp.at_put_ne ?_).trans ?_
      · omega
      refine (HExt.eq (by assumption) _ ?_ ?_).trans ?_
      · simp; omega
      · simp; omega
      refine (Hp.at_put_ne ?_).trans ?_
      · omega
      refine (Hp.at_push_lt ?_).trans ?_
      · omega
      refine (HExt.eq (by assumption) _ ?_ ?_).trans ?_
      · simp; done
      · intro h; cases h; done
      · exact Hp.at_push_eq
      · rfl
      · decide
      · exact .inr (by simp)
      · simp [splice, Value.cells]; rfl
    refine GOps.r rfl rfl rfl rfl (grd_assign rfl rfl) ?_
    refine GOps.nil ?_
    refine GWP.ret ?_
    focus
      refine ⟨_, (.two (gres_cellNK (b := ?_) (cs := ?_) rfl rfl rfl ?_ ?_ ?_) (.one rfl)), ?_⟩
      rotate_left 2
      refine Hp.at_put_eq ?_
      · simp; omega
      · decide
      · simp [Value.cells]; rfl
    refine ⟨?_, ?_⟩
    · rw [if_pos (.inr (by omega))]; rfl
    refine HExt.put ?_ ?_
    refine HExt.put ?_ ?_
    refine HExt.tr ?_ (by assumption) ?_
    refine HExt.put ?_ ?_
    refine HExt.tr ?_ (by assumption) ?_
    refine HExt.put ?_ ?_
    refine HExt.push ?_
    refine HExt.tr ?_ (by assumption) ?_
    refine HExt.push ?_
    · exact HExt.refl _ _
    · intro _ h; cases h; done
    · exact .inr (by omega)
    · simp; omega
    · exact .inr (by omega)
    · simp; omega
    · exact .inr (by omega)
    · exact .inr (by omega)
    simp only [beq_true, beq_false, Bool.not_true, Bool.not_false, Bool.not_eq_true', Bool.not_eq_false', decide_eq_true_eq, decide_eq_false_iff_not] at a21
    refine GWP.skip ?_
    refine GWP.seq ?_
    refine GWP.region ?_
    focus
      refine GOps.r rfl rfl rfl rfl (grd_loadNK (b := ?_) (cs := ?_) tab_is rfl rfl rfl rfl ?_ ?_ ?_) ?_
      rotate_left 2
      refine Hp.at_put_eq ?_
      · omega
      · exact Nat.le_of_ble_eq_true rfl
      · simp [Value.cells]; rfl
    focus
      refine GOps.s rfl rfl rfl (gop_storeC (b := ?_) (cs := ?_) tab_is rfl rfl ?_ rfl rfl ?_ ?_ ?_ ?_ ?_ ?_) ?_
      rotate_left 2
      · rfl
      · rfl
      refine (Hp.at_put_ne ?_).trans ?_
      · omega
      refine (HExt.eq (by assumption) _ ?_ ?_).trans ?_
      · simp; omega
      · simp; omega
      refine (Hp.at_put_ne ?_).trans ?_
      · omega
      refine (HExt.eq (by assumption) _ ?_ ?_).trans ?_
      · simp; omega
      · simp; omega
      refine (Hp.at_put_ne ?_).trans ?_
      · omega
      refine (Hp.at_push_lt ?_).trans ?_
      · omega
      refine (HExt.eq (by assumption) _ ?_ ?_).trans ?_
      · simp; done
      · intro h; cases h; done
      · exact Hp.at_push_eq
      · rfl
      · exact Nat.le_of_ble_eq_true rfl
      · exact .inr (by simp)
      · simp [splice, Value.cells]; rfl
    refine GOps.r rfl rfl rfl rfl (grd_assign rfl rfl) ?_
    refine GOps.nil ?_
    refine GWP.ret ?_
    focus
      refine ⟨_, (.two (gres_cellNK (b := ?_) (cs := ?_) rfl rfl rfl ?_ ?_ ?_) (.one rfl)), ?_⟩
      rotate_left 2
      refine Hp.at_put_eq ?_
      · simp; omega
      · exact Nat.le_of_ble_eq_true rfl
      · simp [Value.cells]; rfl
    refine ⟨?_, ?_⟩
    · rw [if_neg (by omega)]; rfl
    refine HExt.put ?_ ?_
    refine HExt.put ?_ ?_
    refine HExt.tr ?_ (by assumption) ?_
    refine HExt.put ?_ ?_
    refine HExt.tr ?_ (by assumption) ?_
    refine HExt.put ?_ ?_
    refine HExt.push ?_
    refine HExt.tr ?_ (by assumption) ?_
    refine HExt.push ?_
    · exact HExt.refl _ _
    · intro _ h; cases h; done
    · exact .inr (by omega)
    · simp; omega
    · exact .inr (by omega)
    · simp; omega
    · exact .inr (by omega)
    · exact .inr (by omega)
set_option maxHeartbeats 4000000 in
set_option maxRecDepth 100000 in
set_option linter.unusedSimpArgs false in
theorem g_parse4 (H : Hp) (p : Option Addr) (n c : Nat) (M : List UInt8) (hb : BS H (.slice p n c) (4 :: M)) (hn : n ≤ 35184372088832) (r1 r2 r3 : Nat × RdS) (h1 : RdS.number ⟨M, 0⟩ 1099511627776 = r1) (h2 : r1.2.number 1099511627776 = r2) (h3 : r2.2.number 2305843009213693950 = r3) : GCalls Try.prog 34 [.slice p n c] [] H fun v H' => v = (if r3.2.fin ≠ 0 then .tuple #[recV 0 0 0 0 0 (.slice none 0 0) 0 0 0, .int .i64 3] else .tuple #[recV 4 0 0 0 0 (.slice none 0 0) r1.1 r2.1 r3.1, .int .i64 0]) ∧ HExt [] H H' := by
  have hl := hb.len
  simp only [List.length_cons] at hl
  subst hl
  have t1 := numG_le h1
  have t2 := numG_le h2
  have t3 := numG_le h3
  refine GCalls.body tab_is Try.func34 rfl Try.results34 Try.ntmps34 (by simp) ?_ ?_
  · first | (intro _ h; cases h; done) | (simp; done) | (simp; omega) | (intro i hi; simp at hi; rcases hi with rfl | rfl <;> omega) | (intro i hi; simp at hi; rcases hi with rfl | rfl | rfl <;> omega)
  focus
    refine GWP.seq ?_
    refine GWP.region ?_
    focus
      refine GOps.w1 rfl rfl rfl rfl (gop_alloc' (id := ?_) ?_ tab_is rfl rfl ?_) ?_
      rotate_left 1
      · rfl
      · decide
    refine GOps.r rfl rfl rfl rfl (grd_assign rfl rfl) ?_
    refine GOps.nil ?_
    refine GWP.seq ?_
    refine GWP.seq ?_
    refine GWP.region ?_
    refine GOps.r rfl rfl rfl rfl (grd_move rfl rfl) ?_
    refine GOps.r rfl rfl rfl rfl (grd_len tab_is rfl rfl rfl rfl rfl) ?_
    refine GOps.r rfl rfl rfl rfl (grd_eql rfl rfl rfl) ?_
    refine GOps.nil ?_
    refine GWP.cond_f rfl ?_ ?_
    · exact decide_eq_false (by omega)
    refine GWP.skip ?_
    refine GWP.seq ?_
    refine GWP.region ?_
    refine GOps.r rfl rfl rfl rfl (grd_move rfl rfl) ?_
    focus
      refine gops_bs rfl rfl rfl rfl (grd_slBS (l := ?_) (h := ?_) (m2 := ?_) (L := ?_) (M := ?_) tab_is rfl rfl rfl rfl ?_ ?_ ?_ ?_ ?_ ?_ ?_) ?_
      rotate_left 5
      focus
        refine BS.ext (by assumption) ?_
        refine HExt.push ?_
        · exact HExt.refl _ _
      · refine gbound_const ?_; exact rfl
      · exact rfl
      · exact Nat.le_of_ble_eq_true rfl
      · omega
      · simp; rfl
      · refine Eq.trans (List.take_of_length_le ?_) ?_; rotate_left 1; rfl; (simp; done)
    intro pb1 cb1 b1
    have b1n := BS.len b1
    focus
      refine GOps.w rfl rfl rfl rfl (gop_call rfl Try.call17 rfl ?_ (g_vopen _ _ _ _ ?_ ?_ ?_)) ?_
      · intro _ h; cases h; done
      rotate_left 1
      · assumption
      · omega
    rintro _ Hxb7 ⟨⟨gb2, pb3, cb4, rfl, lb5, rb6⟩, xb7⟩
    simp at lb5
    have xb7l := HExt.len xb7; try simp at xb7l
    have rb6g := RG.hg rb6; unfold rdBlk at rb6g; have rb6q := Hp.at_lt rb6g
    refine GOps.r rfl rfl rfl rfl (grd_assign rfl rfl) ?_
    refine GOps.nil ?_
    refine GWP.seq ?_
    refine GWP.region ?_
    refine GOps.r rfl rfl rfl rfl (grd_move rfl rfl) ?_
    focus
      refine GOps.r rfl rfl rfl rfl (grd_indexBS (q := ?_) (L := ?_) tab_is rfl rfl rfl rfl rfl ?_ ?_ ?_) ?_
      rotate_left 2
      focus
        refine BS.ext (by assumption) ?_
        refine HExt.tr ?_ (by assumption) ?_
        refine HExt.push ?_
        · exact HExt.refl _ _
        · intro _ h; cases h; done
      · rfl
      · exact Nat.le_of_ble_eq_true rfl
    focus
      refine GOps.re rfl rfl rfl rfl (grd_loadBSK (n := ?_) (c := ?_) (L := ?_) (u := ?_) tab_is rfl rfl rfl rfl ?_ ?_ ?_) ?_
      rotate_left 4
      focus
        refine BS.ext (by assumption) ?_
        refine HExt.tr ?_ (by assumption) ?_
        refine HExt.push ?_
        · exact HExt.refl _ _
        · intro _ h; cases h; done
      · exact Nat.le_of_ble_eq_true rfl
      · simp only [List.getD_cons_zero]; rfl
    focus
      refine GOps.r rfl rfl rfl rfl (grd_build (cs := ?_) tab_is rfl rfl rfl ?_ rfl ?_) ?_
      rotate_left 1
      · decide
      · simp [gfill, gsets, Value.cells]; rfl
    focus
      refine GOps.w1 rfl rfl rfl rfl (gop_alloc' (id := ?_) ?_ tab_is rfl rfl ?_) ?_
      rotate_left 1
      · rfl
      · decide
    focus
      refine GOps.s rfl rfl rfl (gop_storeC (b := ?_) (cs := ?_) tab_is rfl rfl ?_ rfl rfl ?_ ?_ ?_ ?_ ?_ ?_) ?_
      rotate_left 2
      · rfl
      · rfl
      · exact Hp.at_push_eq
      · rfl
      · decide
      · exact .inr (by simp; omega)
      · simp [splice, Value.cells]; rfl
    refine GOps.nil ?_
    refine GWP.seq ?_
    refine GWP.seq ?_
    refine GWP.region ?_
    refine GOps.r rfl rfl rfl rfl (grd_fieldAddr tab_is rfl rfl rfl rfl rfl) ?_
    focus
      refine GOps.r rfl rfl rfl rfl (grd_load1 (b := ?_) (v := ?_) tab_is rfl rfl rfl rfl ?_ ?_) ?_
      rotate_left 2
      refine Hp.at_put_eq ?_
      · simp; done
      · rfl
    refine GOps.nil ?_
    refine GWP.block ?_
    refine GWP.seq ?_
    refine GWP.region ?_
    refine GOps.r rfl rfl rfl rfl (grd_eql rfl rfl rfl) ?_
    refine GOps.r rfl rfl rfl rfl (grd_assign rfl rfl) ?_
    refine GOps.nil ?_
    refine GWP.cond_f rfl ?_ ?_
    · exact decide_eq_false (by omega)
    refine GWP.seq ?_
    refine GWP.region ?_
    refine GOps.r rfl rfl rfl rfl (grd_eql rfl rfl rfl) ?_
    refine GOps.r rfl rfl rfl rfl (grd_assign rfl rfl) ?_
    refine GOps.nil ?_
    refine GWP.cond_f rfl ?_ ?_
    · exact decide_eq_false (by omega)
    refine GWP.seq ?_
    refine GWP.region ?_
    refine GOps.r rfl rfl rfl rfl (grd_eql rfl rfl rfl) ?_
    refine GOps.r rfl rfl rfl rfl (grd_assign rfl rfl) ?_
    refine GOps.nil ?_
    refine GWP.cond_f rfl ?_ ?_
    · exact decide_eq_false (by omega)
    refine GWP.seq ?_
    refine GWP.region ?_
    refine GOps.r rfl rfl rfl rfl (grd_eql rfl rfl rfl) ?_
    refine GOps.r rfl rfl rfl rfl (grd_assign rfl rfl) ?_
    refine GOps.nil ?_
    refine GWP.cond_t rfl ?_ ?_
    · exact decide_eq_true (by omega)
    refine GWP.seq ?_
    refine GWP.region ?_
    refine GOps.r rfl rfl rfl rfl (grd_move rfl rfl) ?_
    focus
      refine GOps.w rfl rfl rfl rfl (gop_call rfl Try.call24 rfl ?_ (g_numG _ _ _ h1 _ ?_ _ _ ?_ ?_ ?_)) ?_
      · simp [Ctx.may]; omega
      · omega
      rotate_left 2
      refine rg_ext (by assumption) ?_
      refine HExt.put ?_ ?_
      refine HExt.push ?_
      · exact HExt.refl _ _
      · exact .inr (by omega)
    rintro _ Hxb12 ⟨rfl, ⟨pb8, cb9, rb10⟩, kb11, xb12⟩
    have xb12l := HExt.len xb12; try simp at xb12l
    have rb10g := RG.hg rb10; unfold rdBlk at rb10g; have rb10q := Hp.at_lt rb10g
    refine GOps.r rfl rfl rfl rfl (grd_conv_in tab_is rfl rfl rfl rfl rfl ?_) ?_
    · refine wrap_i64_in ?_; omega
    refine GOps.r rfl rfl rfl rfl (grd_fieldAddr tab_is rfl rfl rfl rfl rfl) ?_
    focus
      refine GOps.s rfl rfl rfl (gop_store1 (b := ?_) tab_is rfl rfl rfl rfl rfl rfl ?_ ?_ ?_ ?_) ?_
      rotate_left 1
      refine (HExt.eq (by assumption) _ ?_ ?_).trans ?_
      · simp; done
      · simp; omega
      refine Hp.at_put_eq ?_
      · simp; done
      · rfl
      · decide
      · exact .inr (by simp; omega)
    refine GOps.nil ?_
    refine GWP.region ?_
    refine GOps.r rfl rfl rfl rfl (grd_move rfl rfl) ?_
    focus
      refine GOps.w rfl rfl rfl rfl (gop_call rfl Try.call24 rfl ?_ (g_numG _ _ _ h2 _ ?_ _ _ ?_ ?_ ?_)) ?_
      · simp [Ctx.may]; omega
      · omega
      rotate_left 2
      refine rg_ne (b := ?_) ?_ ?_ ?_ ?_
      rotate_left 1
      focus
        · assumption
      refine (HExt.eq (by assumption) _ ?_ ?_).trans ?_
      · simp; done
      · simp; omega
      refine Hp.at_put_eq ?_
      · simp; done
      · omega
      · rfl
    rintro _ Hxb17 ⟨rfl, ⟨pb13, cb14, rb15⟩, kb16, xb17⟩
    have xb17l := HExt.len xb17; try simp at xb17l
    have rb15g := RG.hg rb15; unfold rdBlk at rb15g; have rb15q := Hp.at_lt rb15g
    refine GOps.r rfl rfl rfl rfl (grd_move rfl rfl) ?_
    focus
      refine GOps.w rfl rfl rfl rfl (gop_call rfl Try.call24 rfl ?_ (g_numG _ _ _ h3 _ ?_ _ _ ?_ ?_ ?_)) ?_
      · simp [Ctx.may]; omega
      · omega
      rotate_left 2
      · assumption
    rintro _ Hxb22 ⟨rfl, ⟨pb18, cb19, rb20⟩, kb21, xb22⟩
    have xb22l := HExt.len xb22; try simp at xb22l
    have rb20g := RG.hg rb20; unfold rdBlk at rb20g; have rb20q := Hp.at_lt rb20g
    focus
      refine GOps.r rfl rfl rfl rfl (grd_build (cs := ?_) tab_is rfl rfl rfl ?_ rfl ?_) ?_
      rotate_left 1
      · decide
      · simp [gfill, gsets, Value.cells]; rfl
    refine GOps.r rfl rfl rfl rfl (grd_fieldAddr tab_is rfl rfl rfl rfl rfl) ?_
    focus
      refine GOps.s rfl rfl rfl (gop_storeC (b := ?_) (cs := ?_) tab_is rfl rfl ?_ rfl rfl ?_ ?_ ?_ ?_ ?_ ?_) ?_
      rotate_left 2
      · rfl
      · rfl
      refine (HExt.eq (by assumption) _ ?_ ?_).trans ?_
      · omega
      · simp; omega
      refine (HExt.eq (by assumption) _ ?_ ?_).trans ?_
      · simp; omega
      · simp; omega
      refine Hp.at_put_eq ?_
      · omega
      · rfl
      · exact Nat.le_of_ble_eq_true rfl
      · exact .inr (by simp; omega)
      · simp [splice, Value.cells]; rfl
    refine GOps.nil ?_
    refine GWP.seq ?_
    refine GWP.seq ?_
    refine GWP.region ?_
    refine GOps.r rfl rfl rfl rfl (grd_move rfl rfl) ?_
    focus
      refine GOps.w1 rfl rfl rfl rfl (gop_call rfl Try.call25 rfl ?_ (g_end _ _ ?_ ?_ ?_ ?_)) ?_
      · intro _ h; cases h; done
      rotate_left 3
      refine rg_ne (b := ?_) ?_ ?_ ?_ ?_
      rotate_left 1
      focus
        · assumption
      refine (HExt.eq (by assumption) _ ?_ ?_).trans ?_
      · omega
      · simp; omega
      refine (HExt.eq (by assumption) _ ?_ ?_).trans ?_
      · simp; omega
      · simp; omega
      refine Hp.at_put_eq ?_
      · omega
      · omega
      · rfl
    refine GOps.r rfl rfl rfl rfl (grd_neq rfl rfl rfl) ?_
    refine GOps.nil ?_
    refine GWP.cond rfl (fun b23 => ?_) (fun b23 => ?_)
    simp only [beq_true, beq_false, Bool.not_true, Bool.not_false, Bool.not_eq_true', Bool.not_eq_false', decide_eq_true_eq, decide_eq_false_iff_not] at b23
    refine GWP.seq ?_
    refine GWP.region ?_
    focus
      refine GOps.r rfl rfl rfl rfl (grd_build (cs := ?_) tab_is rfl rfl rfl ?_ rfl ?_) ?_
      rotate_left 1
      · decide
      · simp [gfill, gsets, Value.cells]; rfl
    focus
      refine GOps.s rfl rfl rfl (gop_storeC (b := ?_) (cs := ?_) tab_is rfl rfl ?_ rfl rfl ?_ ?_ ?_ ?_ ?_ ?_) ?_
      rotate_left 2
      · rfl
      · rfl
      refine (Hp.at_put_ne ?_).trans ?_
      · omega
      refine (HExt.eq (by assumption) _ ?_ ?_).trans ?_
      · omega
      · simp; omega
      refine (HExt.eq (by assumption) _ ?_ ?_).trans ?_
      · simp; omega
      · simp; omega
      refine (Hp.at_put_ne ?_).trans ?_
      · omega
      refine (HExt.eq (by assumption) _ ?_ ?_).trans ?_
      · simp; omega
      · simp; omega
      refine (Hp.at_put_ne ?_).trans ?_
      · omega
      refine (Hp.at_push_lt ?_).trans ?_
      · omega
      refine (HExt.eq (by assumption) _ ?_ ?_).trans ?_
      · simp; done
      · intro h; cases h; done
      · exact Hp.at_push_eq
      · rfl
      · decide
      · exact .inr (by simp)
      · simp [splice, Value.cells]; rfl
    refine GOps.r rfl rfl rfl rfl (grd_assign rfl rfl) ?_
    refine GOps.nil ?_
    refine GWP.ret ?_
    focus
      refine ⟨_, (.two (gres_cellNK (b := ?_) (cs := ?_) rfl rfl rfl ?_ ?_ ?_) (.one rfl)), ?_⟩
      rotate_left 2
      refine Hp.at_put_eq ?_
      · simp; omega
      · decide
      · simp [Value.cells]; rfl
    refine ⟨?_, ?_⟩
    · rw [if_pos (by omega)]; rfl
    refine HExt.put ?_ ?_
    refine HExt.put ?_ ?_
    refine HExt.tr ?_ (by assumption) ?_
    refine HExt.tr ?_ (by assumption) ?_
    refine HExt.put ?_ ?_
    refine HExt.tr ?_ (by assumption) ?_
    refine HExt.put ?_ ?_
    refine HExt.push ?_
    refine HExt.tr ?_ (by assumption) ?_
    refine HExt.push ?_
    · exact HExt.refl _ _
    · intro _ h; cases h; done
    · exact .inr (by omega)
    · simp; omega
    · exact .inr (by omega)
    · simp; omega
    · simp; omega
    · exact .inr (by omega)
    · exact .inr (by omega)
    simp only [beq_true, beq_false, Bool.not_true, Bool.not_false, Bool.not_eq_true', Bool.not_eq_false', decide_eq_true_eq, decide_eq_false_iff_not] at b23
    refine GWP.skip ?_
    refine GWP.seq ?_
    refine GWP.region ?_
    focus
      refine GOps.r rfl rfl rfl rfl (grd_loadNK (b := ?_) (cs := ?_) tab_is rfl rfl rfl rfl ?_ ?_ ?_) ?_
      rotate_left 2
      refine Hp.at_put_eq ?_
      · omega
      · exact Nat.le_of_ble_eq_true rfl
      · simp [Value.cells]; rfl
    focus
      refine GOps.s rfl rfl rfl (gop_storeC (b := ?_) (cs := ?_) tab_is rfl rfl ?_ rfl rfl ?_ ?_ ?_ ?_ ?_ ?_) ?_
      rotate_left 2
      · rfl
      · rfl
      refine (Hp.at_put_ne ?_).trans ?_
      · omega
      refine (HExt.eq (by assumption) _ ?_ ?_).trans ?_
      · omega
      · simp; omega
      refine (HExt.eq (by assumption) _ ?_ ?_).trans ?_
      · simp; omega
      · simp; omega
      refine (Hp.at_put_ne ?_).trans ?_
      · omega
      refine (HExt.eq (by assumption) _ ?_ ?_).trans ?_
      · simp; omega
      · simp; omega
      refine (Hp.at_put_ne ?_).trans ?_
      · omega
      refine (Hp.at_push_lt ?_).trans ?_
      · omega
      refine (HExt.eq (by assumption) _ ?_ ?_).trans ?_
      · simp; done
      · intro h; cases h; done
      · exact Hp.at_push_eq
      · rfl
      · exact Nat.le_of_ble_eq_true rfl
      · exact .inr (by simp)
      · simp [splice, Value.cells]; rfl
    refine GOps.r rfl rfl rfl rfl (grd_assign rfl rfl) ?_
    refine GOps.nil ?_
    refine GWP.ret ?_
    focus
      refine ⟨_, (.two (gres_cellNK (b := ?_) (cs := ?_) rfl rfl rfl ?_ ?_ ?_) (.one rfl)), ?_⟩
      rotate_left 2
      refine Hp.at_put_eq ?_
      · simp; omega
      · exact Nat.le_of_ble_eq_true rfl
      · simp [Value.cells]; rfl
    refine ⟨?_, ?_⟩
    · rw [if_neg (by omega)]; rfl
    refine HExt.put ?_ ?_
    refine HExt.put ?_ ?_
    refine HExt.tr ?_ (by assumption) ?_
    refine HExt.tr ?_ (by assumption) ?_
    refine HExt.put ?_ ?_
    refine HExt.tr ?_ (by assumption) ?_
    refine HExt.put ?_ ?_
    refine HExt.push ?_
    refine HExt.tr ?_ (by assumption) ?_
    refine HExt.push ?_
    · exact HExt.refl _ _
    · intro _ h; cases h; done
    · exact .inr (by omega)
    · simp; omega
    · exact .inr (by omega)
    · simp; omega
    · simp; omega
    · exact .inr (by omega)
    · exact .inr (by omega)
set_option maxHeartbeats 4000000 in
set_option maxRecDepth 100000 in
set_option linter.unusedSimpArgs false in
theorem g_parse0 (H : Hp) (p : Option Addr) (n c : Nat) (hb : BS H (.slice p n c) []) : GCalls Try.prog 34 [.slice p n c] [] H fun v H' => v = .tuple #[recV 0 0 0 0 0 (.slice none 0 0) 0 0 0, .int .i64 3] ∧ HExt [] H H' := by
  have hl := hb.len
  simp only [List.length_nil] at hl
  subst hl
  refine GCalls.body tab_is Try.func34 rfl Try.results34 Try.ntmps34 (by simp) ?_ ?_
  · first | (intro _ h; cases h; done) | (simp; done) | (simp; omega) | (intro i hi; simp at hi; rcases hi with rfl | rfl <;> omega) | (intro i hi; simp at hi; rcases hi with rfl | rfl | rfl <;> omega)
  focus
    refine GWP.seq ?_
    refine GWP.region ?_
    focus
      refine GOps.w1 rfl rfl rfl rfl (gop_alloc' (id := ?_) ?_ tab_is rfl rfl ?_) ?_
      rotate_left 1
      · rfl
      · decide
    refine GOps.r rfl rfl rfl rfl (grd_assign rfl rfl) ?_
    refine GOps.nil ?_
    refine GWP.seq ?_
    refine GWP.seq ?_
    refine GWP.region ?_
    refine GOps.r rfl rfl rfl rfl (grd_move rfl rfl) ?_
    refine GOps.r rfl rfl rfl rfl (grd_len tab_is rfl rfl rfl rfl rfl) ?_
    refine GOps.r rfl rfl rfl rfl (grd_eql rfl rfl rfl) ?_
    refine GOps.nil ?_
    refine GWP.cond_t rfl ?_ ?_
    · exact decide_eq_true (by omega)
    refine GWP.seq ?_
    refine GWP.region ?_
    focus
      refine GOps.r rfl rfl rfl rfl (grd_build (cs := ?_) tab_is rfl rfl rfl ?_ rfl ?_) ?_
      rotate_left 1
      · decide
      · simp [gfill, gsets, Value.cells]; rfl
    focus
      refine GOps.s rfl rfl rfl (gop_storeC (b := ?_) (cs := ?_) tab_is rfl rfl ?_ rfl rfl ?_ ?_ ?_ ?_ ?_ ?_) ?_
      rotate_left 2
      · rfl
      · rfl
      · exact Hp.at_push_eq
      · rfl
      · decide
      · exact .inr (by simp)
      · simp [splice, Value.cells]; rfl
    refine GOps.r rfl rfl rfl rfl (grd_assign rfl rfl) ?_
    refine GOps.nil ?_
    refine GWP.ret ?_
    focus
      refine ⟨_, (.two (gres_cellNK (b := ?_) (cs := ?_) rfl rfl rfl ?_ ?_ ?_) (.one rfl)), ?_⟩
      rotate_left 2
      refine Hp.at_put_eq ?_
      · simp; done
      · decide
      · simp [Value.cells]; rfl
    refine ⟨?_, ?_⟩
    · rfl
    refine HExt.put ?_ ?_
    refine HExt.push ?_
    · exact HExt.refl _ _
    · exact .inr (by omega)
set_option maxHeartbeats 4000000 in
set_option maxRecDepth 100000 in
set_option linter.unusedSimpArgs false in
theorem g_parse5 (H : Hp) (p : Option Addr) (n c : Nat) (k : UInt8) (M : List UInt8) (hb : BS H (.slice p n c) (k :: M)) (hn : n ≤ 35184372088832) (hk : k.toNat = 0 ∨ 4 < k.toNat) : GCalls Try.prog 34 [.slice p n c] [] H fun v H' => v = .tuple #[recV 0 0 0 0 0 (.slice none 0 0) 0 0 0, .int .i64 3] ∧ HExt [] H H' := by
  have hl := hb.len
  simp only [List.length_cons] at hl
  subst hl
  refine GCalls.body tab_is Try.func34 rfl Try.results34 Try.ntmps34 (by simp) ?_ ?_
  · first | (intro _ h; cases h; done) | (simp; done) | (simp; omega) | (intro i hi; simp at hi; rcases hi with rfl | rfl <;> omega) | (intro i hi; simp at hi; rcases hi with rfl | rfl | rfl <;> omega)
  focus
    refine GWP.seq ?_
    refine GWP.region ?_
    focus
      refine GOps.w1 rfl rfl rfl rfl (gop_alloc' (id := ?_) ?_ tab_is rfl rfl ?_) ?_
      rotate_left 1
      · rfl
      · decide
    refine GOps.r rfl rfl rfl rfl (grd_assign rfl rfl) ?_
    refine GOps.nil ?_
    refine GWP.seq ?_
    refine GWP.seq ?_
    refine GWP.region ?_
    refine GOps.r rfl rfl rfl rfl (grd_move rfl rfl) ?_
    refine GOps.r rfl rfl rfl rfl (grd_len tab_is rfl rfl rfl rfl rfl) ?_
    refine GOps.r rfl rfl rfl rfl (grd_eql rfl rfl rfl) ?_
    refine GOps.nil ?_
    refine GWP.cond_f rfl ?_ ?_
    · exact decide_eq_false (by omega)
    refine GWP.skip ?_
    refine GWP.seq ?_
    refine GWP.region ?_
    refine GOps.r rfl rfl rfl rfl (grd_move rfl rfl) ?_
    focus
      refine gops_bs rfl rfl rfl rfl (grd_slBS (l := ?_) (h := ?_) (m2 := ?_) (L := ?_) (M := ?_) tab_is rfl rfl rfl rfl ?_ ?_ ?_ ?_ ?_ ?_ ?_) ?_
      rotate_left 5
      focus
        refine BS.ext (by assumption) ?_
        refine HExt.push ?_
        · exact HExt.refl _ _
      · refine gbound_const ?_; exact rfl
      · exact rfl
      · exact Nat.le_of_ble_eq_true rfl
      · omega
      · simp; rfl
      · refine Eq.trans (List.take_of_length_le ?_) ?_; rotate_left 1; rfl; (simp; done)
    intro pe1 ce1 e1
    have e1n := BS.len e1
    focus
      refine GOps.w rfl rfl rfl rfl (gop_call rfl Try.call17 rfl ?_ (g_vopen _ _ _ _ ?_ ?_ ?_)) ?_
      · intro _ h; cases h; done
      rotate_left 1
      · assumption
      · omega
    rintro _ Hxe7 ⟨⟨ge2, pe3, ce4, rfl, le5, re6⟩, xe7⟩
    simp at le5
    have xe7l := HExt.len xe7; try simp at xe7l
    have re6g := RG.hg re6; unfold rdBlk at re6g; have re6q := Hp.at_lt re6g
    refine GOps.r rfl rfl rfl rfl (grd_assign rfl rfl) ?_
    refine GOps.nil ?_
    refine GWP.seq ?_
    refine GWP.region ?_
    refine GOps.r rfl rfl rfl rfl (grd_move rfl rfl) ?_
    focus
      refine GOps.r rfl rfl rfl rfl (grd_indexBS (q := ?_) (L := ?_) tab_is rfl rfl rfl rfl rfl ?_ ?_ ?_) ?_
      rotate_left 2
      focus
        refine BS.ext (by assumption) ?_
        refine HExt.tr ?_ (by assumption) ?_
        refine HExt.push ?_
        · exact HExt.refl _ _
        · intro _ h; cases h; done
      · rfl
      · exact Nat.le_of_ble_eq_true rfl
    focus
      refine GOps.re rfl rfl rfl rfl (grd_loadBSK (n := ?_) (c := ?_) (L := ?_) (u := ?_) tab_is rfl rfl rfl rfl ?_ ?_ ?_) ?_
      rotate_left 4
      focus
        refine BS.ext (by assumption) ?_
        refine HExt.tr ?_ (by assumption) ?_
        refine HExt.push ?_
        · exact HExt.refl _ _
        · intro _ h; cases h; done
      · exact Nat.le_of_ble_eq_true rfl
      · simp only [List.getD_cons_zero]; rfl
    focus
      refine GOps.r rfl rfl rfl rfl (grd_build (cs := ?_) tab_is rfl rfl rfl ?_ rfl ?_) ?_
      rotate_left 1
      · decide
      · simp [gfill, gsets, Value.cells]; rfl
    focus
      refine GOps.w1 rfl rfl rfl rfl (gop_alloc' (id := ?_) ?_ tab_is rfl rfl ?_) ?_
      rotate_left 1
      · rfl
      · decide
    focus
      refine GOps.s rfl rfl rfl (gop_storeC (b := ?_) (cs := ?_) tab_is rfl rfl ?_ rfl rfl ?_ ?_ ?_ ?_ ?_ ?_) ?_
      rotate_left 2
      · rfl
      · rfl
      · exact Hp.at_push_eq
      · rfl
      · exact Nat.le_of_ble_eq_true rfl
      · exact .inr (by simp; omega)
      · simp [splice, Value.cells]; rfl
    refine GOps.nil ?_
    refine GWP.seq ?_
    refine GWP.seq ?_
    refine GWP.region ?_
    refine GOps.r rfl rfl rfl rfl (grd_fieldAddr tab_is rfl rfl rfl rfl rfl) ?_
    focus
      refine GOps.r rfl rfl rfl rfl (grd_load1 (b := ?_) (v := ?_) tab_is rfl rfl rfl rfl ?_ ?_) ?_
      rotate_left 2
      refine Hp.at_put_eq ?_
      · simp; done
      · rfl
    refine GOps.nil ?_
    refine GWP.block ?_
    refine GWP.seq ?_
    refine GWP.region ?_
    refine GOps.r rfl rfl rfl rfl (grd_eql rfl rfl rfl) ?_
    refine GOps.r rfl rfl rfl rfl (grd_assign rfl rfl) ?_
    refine GOps.nil ?_
    refine GWP.cond_f rfl ?_ ?_
    · exact decide_eq_false (by omega)
    refine GWP.seq ?_
    refine GWP.region ?_
    refine GOps.r rfl rfl rfl rfl (grd_eql rfl rfl rfl) ?_
    refine GOps.r rfl rfl rfl rfl (grd_assign rfl rfl) ?_
    refine GOps.nil ?_
    refine GWP.cond_f rfl ?_ ?_
    · exact decide_eq_false (by omega)
    refine GWP.seq ?_
    refine GWP.region ?_
    refine GOps.r rfl rfl rfl rfl (grd_eql rfl rfl rfl) ?_
    refine GOps.r rfl rfl rfl rfl (grd_assign rfl rfl) ?_
    refine GOps.nil ?_
    refine GWP.cond_f rfl ?_ ?_
    · exact decide_eq_false (by omega)
    refine GWP.seq ?_
    refine GWP.region ?_
    refine GOps.r rfl rfl rfl rfl (grd_eql rfl rfl rfl) ?_
    refine GOps.r rfl rfl rfl rfl (grd_assign rfl rfl) ?_
    refine GOps.nil ?_
    refine GWP.cond_f rfl ?_ ?_
    · exact decide_eq_false (by omega)
    refine GWP.seq ?_
    refine GWP.region ?_
    focus
      refine GOps.r rfl rfl rfl rfl (grd_build (cs := ?_) tab_is rfl rfl rfl ?_ rfl ?_) ?_
      rotate_left 1
      · decide
      · simp [gfill, gsets, Value.cells]; rfl
    focus
      refine GOps.s rfl rfl rfl (gop_storeC (b := ?_) (cs := ?_) tab_is rfl rfl ?_ rfl rfl ?_ ?_ ?_ ?_ ?_ ?_) ?_
      rotate_left 2
      · rfl
      · rfl
      refine (Hp.at_put_ne ?_).trans ?_
      · omega
      refine (Hp.at_push_lt ?_).trans ?_
      · omega
      refine (HExt.eq (by assumption) _ ?_ ?_).trans ?_
      · simp; done
      · intro h; cases h; done
      · exact Hp.at_push_eq
      · rfl
      · decide
      · exact .inr (by simp)
      · simp [splice, Value.cells]; rfl
    refine GOps.r rfl rfl rfl rfl (grd_assign rfl rfl) ?_
    refine GOps.nil ?_
    refine GWP.ret ?_
    focus
      refine ⟨_, (.two (gres_cellNK (b := ?_) (cs := ?_) rfl rfl rfl ?_ ?_ ?_) (.one rfl)), ?_⟩
      rotate_left 2
      refine Hp.at_put_eq ?_
      · simp; omega
      · decide
      · simp [Value.cells]; rfl
    refine ⟨?_, ?_⟩
    · rfl
    refine HExt.put ?_ ?_
    refine HExt.put ?_ ?_
    refine HExt.push ?_
    refine HExt.tr ?_ (by assumption) ?_
    refine HExt.push ?_
    · exact HExt.refl _ _
    · intro _ h; cases h; done
    · exact .inr (by omega)
    · exact .inr (by omega)
set_option maxHeartbeats 4000000 in
set_option maxRecDepth 100000 in
set_option linter.unusedSimpArgs false in
theorem g_parse2no (H : Hp) (p : Option Addr) (n c : Nat) (M : List UInt8) (hb : BS H (.slice p n c) (2 :: M)) (hn : n ≤ 35184372088832) (q1 q2 q3 : Nat) (hq : next M = (q1, q2, q3)) (hq2 : q3 = 0 → q2 ≤ M.length) (hno : q3 = 0 → q1 < 256 → ¬ dataOk q1 (M.drop q2).length) : GCalls Try.prog 34 [.slice p n c] [] H fun v H' => v = .tuple #[recV 0 0 0 0 0 (.slice none 0 0) 0 0 0, .int .i64 3] ∧ HExt [] H H' := by
  have hl := hb.len
  simp only [List.length_cons] at hl
  subst hl
  have hN : ∀ H p n c, BS H (.slice p n c) M → n ≤ 9223372036854775000 → GCalls Try.prog 50 [.slice p n c] [] H fun v H' => v = .tuple #[.int .u64 (q1 : Int), .int .i64 (q2 : Int), .int .i64 (q3 : Int)] ∧ H' = H := fun H p n c h1 h2 => by
    have := g_next H p n c M h1 h2
    rw [hq] at this
    exact this
  clear hq
  by_cases h3 : q3 = 0
  · have hq2 := hq2 h3
    have hno2 := hno h3
    clear hno
    subst h3
    have hL : (M.drop q2).length = M.length + 1 - (1 + q2) := by rw [List.length_drop]; omega
    rw [hL] at hno2
    by_cases h1 : q1 < 256
    · have hd := hno2 h1
      clear hno2 hL
      refine GCalls.body tab_is Try.func34 rfl Try.results34 Try.ntmps34 (by simp) ?_ ?_
      · first | (intro _ h; cases h; done) | (simp; done) | (simp; omega) | (intro i hi; simp at hi; rcases hi with rfl | rfl <;> omega) | (intro i hi; simp at hi; rcases hi with rfl | rfl | rfl <;> omega)
      focus
        refine GWP.seq ?_
        refine GWP.region ?_
        focus
          refine GOps.w1 rfl rfl rfl rfl (gop_alloc' (id := ?_) ?_ tab_is rfl rfl ?_) ?_
          rotate_left 1
          · rfl
          · decide
        refine GOps.r rfl rfl rfl rfl (grd_assign rfl rfl) ?_
        refine GOps.nil ?_
        refine GWP.seq ?_
        refine GWP.seq ?_
        refine GWP.region ?_
        refine GOps.r rfl rfl rfl rfl (grd_move rfl rfl) ?_
        refine GOps.r rfl rfl rfl rfl (grd_len tab_is rfl rfl rfl rfl rfl) ?_
        refine GOps.r rfl rfl rfl rfl (grd_eql rfl rfl rfl) ?_
        refine GOps.nil ?_
        refine GWP.cond_f rfl ?_ ?_
        · exact decide_eq_false (by omega)
        refine GWP.skip ?_
        refine GWP.seq ?_
        refine GWP.region ?_
        refine GOps.r rfl rfl rfl rfl (grd_move rfl rfl) ?_
        focus
          refine gops_bs rfl rfl rfl rfl (grd_slBS (l := ?_) (h := ?_) (m2 := ?_) (L := ?_) (M := ?_) tab_is rfl rfl rfl rfl ?_ ?_ ?_ ?_ ?_ ?_ ?_) ?_
          rotate_left 5
          focus
            refine BS.ext (by assumption) ?_
            refine HExt.push ?_
            · exact HExt.refl _ _
          · refine gbound_const ?_; exact rfl
          · exact rfl
          · exact Nat.le_of_ble_eq_true rfl
          · omega
          · simp; rfl
          · refine Eq.trans (List.take_of_length_le ?_) ?_; rotate_left 1; rfl; (simp; done)
        intro pg1 cg1 g1
        have g1n := BS.len g1
        focus
          refine GOps.w rfl rfl rfl rfl (gop_call rfl Try.call17 rfl ?_ (g_vopen _ _ _ _ ?_ ?_ ?_)) ?_
          · intro _ h; cases h; done
          rotate_left 1
          · assumption
          · omega
        rintro _ Hxg7 ⟨⟨gg2, pg3, cg4, rfl, lg5, rg6⟩, xg7⟩
        simp at lg5
        have xg7l := HExt.len xg7; try simp at xg7l
        refine GOps.r rfl rfl rfl rfl (grd_assign rfl rfl) ?_
        refine GOps.nil ?_
        refine GWP.seq ?_
        refine GWP.region ?_
        refine GOps.r rfl rfl rfl rfl (grd_move rfl rfl) ?_
        focus
          refine GOps.r rfl rfl rfl rfl (grd_indexBS (q := ?_) (L := ?_) tab_is rfl rfl rfl rfl rfl ?_ ?_ ?_) ?_
          rotate_left 2
          focus
            refine BS.ext (by assumption) ?_
            refine HExt.tr ?_ (by assumption) ?_
            refine HExt.push ?_
            · exact HExt.refl _ _
            · intro _ h; cases h; done
          · rfl
          · exact Nat.le_of_ble_eq_true rfl
        focus
          refine GOps.re rfl rfl rfl rfl (grd_loadBSK (n := ?_) (c := ?_) (L := ?_) (u := ?_) tab_is rfl rfl rfl rfl ?_ ?_ ?_) ?_
          rotate_left 4
          focus
            refine BS.ext (by assumption) ?_
            refine HExt.tr ?_ (by assumption) ?_
            refine HExt.push ?_
            · exact HExt.refl _ _
            · intro _ h; cases h; done
          · exact Nat.le_of_ble_eq_true rfl
          · simp only [List.getD_cons_zero]; rfl
        focus
          refine GOps.r rfl rfl rfl rfl (grd_build (cs := ?_) tab_is rfl rfl rfl ?_ rfl ?_) ?_
          rotate_left 1
          · decide
          · simp [gfill, gsets, Value.cells]; rfl
        focus
          refine GOps.w1 rfl rfl rfl rfl (gop_alloc' (id := ?_) ?_ tab_is rfl rfl ?_) ?_
          rotate_left 1
          · rfl
          · decide
        focus
          refine GOps.s rfl rfl rfl (gop_storeC (b := ?_) (cs := ?_) tab_is rfl rfl ?_ rfl rfl ?_ ?_ ?_ ?_ ?_ ?_) ?_
          rotate_left 2
          · rfl
          · rfl
          · exact Hp.at_push_eq
          · rfl
          · decide
          · exact .inr (by simp; omega)
          · simp [splice, Value.cells]; rfl
        refine GOps.nil ?_
        refine GWP.seq ?_
        refine GWP.seq ?_
        refine GWP.region ?_
        refine GOps.r rfl rfl rfl rfl (grd_fieldAddr tab_is rfl rfl rfl rfl rfl) ?_
        focus
          refine GOps.r rfl rfl rfl rfl (grd_load1 (b := ?_) (v := ?_) tab_is rfl rfl rfl rfl ?_ ?_) ?_
          rotate_left 2
          refine Hp.at_put_eq ?_
          · simp; done
          · rfl
        refine GOps.nil ?_
        refine GWP.block ?_
        refine GWP.seq ?_
        refine GWP.region ?_
        refine GOps.r rfl rfl rfl rfl (grd_eql rfl rfl rfl) ?_
        refine GOps.r rfl rfl rfl rfl (grd_assign rfl rfl) ?_
        refine GOps.nil ?_
        refine GWP.cond_f rfl ?_ ?_
        · exact decide_eq_false (by omega)
        refine GWP.seq ?_
        refine GWP.region ?_
        refine GOps.r rfl rfl rfl rfl (grd_eql rfl rfl rfl) ?_
        refine GOps.r rfl rfl rfl rfl (grd_assign rfl rfl) ?_
        refine GOps.nil ?_
        refine GWP.cond_t rfl ?_ ?_
        · exact decide_eq_true (by omega)
        refine GWP.seq ?_
        refine GWP.region ?_
        refine GOps.r rfl rfl rfl rfl (grd_move rfl rfl) ?_
        focus
          refine gops_bs rfl rfl rfl rfl (grd_slBS (l := ?_) (h := ?_) (m2 := ?_) (L := ?_) (M := ?_) tab_is rfl rfl rfl rfl ?_ ?_ ?_ ?_ ?_ ?_ ?_) ?_
          rotate_left 5
          focus
            refine BS.ext (by assumption) ?_
            refine HExt.put ?_ ?_
            refine HExt.push ?_
            refine HExt.tr ?_ (by assumption) ?_
            refine HExt.push ?_
            · exact HExt.refl _ _
            · intro _ h; cases h; done
            · exact .inr (by omega)
          · refine gbound_const ?_; exact rfl
          · exact rfl
          · exact Nat.le_of_ble_eq_true rfl
          · omega
          · simp; rfl
          · refine Eq.trans (List.take_of_length_le ?_) ?_; rotate_left 1; rfl; (simp; done)
        intro pg8 cg8 g8
        have g8n := BS.len g8
        refine GOps.w1 rfl rfl rfl rfl (gop_call rfl Try.call50 rfl ?_ (hN _ _ _ _ ?_ ?_)) ?_
        · intro _ h; cases h; done
        · assumption
        · omega
        refine GOps.r rfl rfl rfl rfl (grd_move rfl rfl) ?_
        focus
          refine GOps.r rfl rfl rfl rfl (grd_extract (v := ?_) rfl rfl ?_) ?_
          rotate_left 1
          · simp only [List.getElem?_toArray, List.getElem?_cons_zero, List.getElem?_cons_succ]; rfl
        focus
          refine GOps.r rfl rfl rfl rfl (grd_extract (v := ?_) rfl rfl ?_) ?_
          rotate_left 1
          · simp only [List.getElem?_toArray, List.getElem?_cons_zero, List.getElem?_cons_succ]; rfl
        focus
          refine GOps.r rfl rfl rfl rfl (grd_extract (v := ?_) rfl rfl ?_) ?_
          rotate_left 1
          · simp only [List.getElem?_toArray, List.getElem?_cons_zero, List.getElem?_cons_succ]; rfl
        refine GOps.r rfl rfl rfl rfl (grd_assign rfl rfl) ?_
        refine GOps.r rfl rfl rfl rfl (grd_assign rfl rfl) ?_
        refine GOps.r rfl rfl rfl rfl (grd_assign rfl rfl) ?_
        refine GOps.nil ?_
        refine GWP.seq ?_
        refine GWP.seq ?_
        refine GWP.region ?_
        refine GOps.r rfl rfl rfl rfl (grd_move rfl rfl) ?_
        refine GOps.r rfl rfl rfl rfl (grd_neq rfl rfl rfl) ?_
        refine GOps.r rfl rfl rfl rfl (grd_move rfl rfl) ?_
        refine GOps.take rfl rfl ?_ ?_
        · simp; done
        refine GOps.r rfl rfl rfl rfl (grd_move rfl rfl) ?_
        refine GOps.take rfl rfl ?_ ?_
        · simp; done
        refine GOps.r rfl rfl rfl rfl (grd_geq rfl rfl rfl) ?_
        refine GOps.r rfl rfl rfl rfl (grd_pick_f rfl rfl ?_ rfl) ?_
        · exact decide_eq_false (by omega)
        refine GOps.nil ?_
        refine GWP.cond_f rfl ?_ ?_
        · exact decide_eq_false (by omega)
        refine GWP.skip ?_
        refine GWP.seq ?_
        refine GWP.region ?_
        refine GOps.r rfl rfl rfl rfl (grd_move rfl rfl) ?_
        refine GOps.r rfl rfl rfl rfl (grd_conv_in tab_is rfl rfl rfl rfl rfl ?_) ?_
        · refine wrap_i64_in ?_; omega
        refine GOps.r rfl rfl rfl rfl (grd_move rfl rfl) ?_
        refine GOps.r rfl rfl rfl rfl (grd_move rfl rfl) ?_
        refine GOps.r rfl rfl rfl rfl (grd_add64 rfl rfl rfl ?_) ?_
        · omega
        focus
          refine gops_bs rfl rfl rfl rfl (grd_slBS (l := ?_) (h := ?_) (m2 := ?_) (L := ?_) (M := ?_) tab_is rfl rfl rfl rfl ?_ ?_ ?_ ?_ ?_ ?_ ?_) ?_
          rotate_left 5
          focus
            refine BS.ext (by assumption) ?_
            refine HExt.put ?_ ?_
            refine HExt.push ?_
            refine HExt.tr ?_ (by assumption) ?_
            refine HExt.push ?_
            · exact HExt.refl _ _
            · intro _ h; cases h; done
            · exact .inr (by omega)
          · refine gbound_tmp rfl ?_; exact rfl
          · exact rfl
          · simp; omega
          · omega
          · simp; rfl
          · refine Eq.trans (List.take_of_length_le ?_) ?_; rotate_left 1; rfl; (simp; done)
        intro pg9 cg9 g9
        have g9n := BS.len g9
        refine GOps.w rfl rfl rfl rfl (gop_call rfl Try.call55 rfl ?_ (g_rdata_no _ _ ?_ _ _ _ ?_ ?_)) ?_
        · intro _ h; cases h; done
        · omega
        · omega
        · assumption
        rintro _ Hxg10 ⟨rfl, xg10⟩
        have xg10l := HExt.len xg10; try simp at xg10l
        focus
          refine GOps.r rfl rfl rfl rfl (grd_extract (v := ?_) rfl rfl ?_) ?_
          rotate_left 1
          · simp only [List.getElem?_toArray, List.getElem?_cons_zero, List.getElem?_cons_succ]; rfl
        focus
          refine GOps.r rfl rfl rfl rfl (grd_extract (v := ?_) rfl rfl ?_) ?_
          rotate_left 1
          · simp only [List.getElem?_toArray, List.getElem?_cons_zero, List.getElem?_cons_succ]; rfl
        focus
          refine GOps.s rfl rfl rfl (gop_storeC (b := ?_) (cs := ?_) tab_is rfl rfl ?_ rfl rfl ?_ ?_ ?_ ?_ ?_ ?_) ?_
          rotate_left 2
          · rfl
          · rfl
          refine (HExt.eq (by assumption) _ ?_ ?_).trans ?_
          · simp; omega
          · intro h; cases h; done
          refine (Hp.at_put_ne ?_).trans ?_
          · omega
          refine (Hp.at_push_lt ?_).trans ?_
          · omega
          refine (HExt.eq (by assumption) _ ?_ ?_).trans ?_
          · simp; done
          · intro h; cases h; done
          · exact Hp.at_push_eq
          · rfl
          · decide
          · exact .inr (by simp)
          · simp [splice, Value.cells]; rfl
        refine GOps.r rfl rfl rfl rfl (grd_assign rfl rfl) ?_
        refine GOps.nil ?_
        refine GWP.ret ?_
        focus
          refine ⟨_, (.two (gres_cellNK (b := ?_) (cs := ?_) rfl rfl rfl ?_ ?_ ?_) (.one rfl)), ?_⟩
          rotate_left 2
          refine Hp.at_put_eq ?_
          · omega
          · decide
          · simp [Value.cells]; rfl
        refine ⟨?_, ?_⟩
        · rfl
        refine HExt.put ?_ ?_
        refine HExt.tr ?_ (by assumption) ?_
        refine HExt.put ?_ ?_
        refine HExt.push ?_
        refine HExt.tr ?_ (by assumption) ?_
        refine HExt.push ?_
        · exact HExt.refl _ _
        · intro _ h; cases h; done
        · exact .inr (by omega)
        · intro _ h; cases h; done
        · exact .inr (by omega)
    · clear hno2 hL
      refine GCalls.body tab_is Try.func34 rfl Try.results34 Try.ntmps34 (by simp) ?_ ?_
      · first | (intro _ h; cases h; done) | (simp; done) | (simp; omega) | (intro i hi; simp at hi; rcases hi with rfl | rfl <;> omega) | (intro i hi; simp at hi; rcases hi with rfl | rfl | rfl <;> omega)
      focus
        refine GWP.seq ?_
        refine GWP.region ?_
        focus
          refine GOps.w1 rfl rfl rfl rfl (gop_alloc' (id := ?_) ?_ tab_is rfl rfl ?_) ?_
          rotate_left 1
          · rfl
          · decide
        refine GOps.r rfl rfl rfl rfl (grd_assign rfl rfl) ?_
        refine GOps.nil ?_
        refine GWP.seq ?_
        refine GWP.seq ?_
        refine GWP.region ?_
        refine GOps.r rfl rfl rfl rfl (grd_move rfl rfl) ?_
        refine GOps.r rfl rfl rfl rfl (grd_len tab_is rfl rfl rfl rfl rfl) ?_
        refine GOps.r rfl rfl rfl rfl (grd_eql rfl rfl rfl) ?_
        refine GOps.nil ?_
        refine GWP.cond_f rfl ?_ ?_
        · exact decide_eq_false (by omega)
        refine GWP.skip ?_
        refine GWP.seq ?_
        refine GWP.region ?_
        refine GOps.r rfl rfl rfl rfl (grd_move rfl rfl) ?_
        focus
          refine gops_bs rfl rfl rfl rfl (grd_slBS (l := ?_) (h := ?_) (m2 := ?_) (L := ?_) (M := ?_) tab_is rfl rfl rfl rfl ?_ ?_ ?_ ?_ ?_ ?_ ?_) ?_
          rotate_left 5
          focus
            refine BS.ext (by assumption) ?_
            refine HExt.push ?_
            · exact HExt.refl _ _
          · refine gbound_const ?_; exact rfl
          · exact rfl
          · exact Nat.le_of_ble_eq_true rfl
          · omega
          · simp; rfl
          · refine Eq.trans (List.take_of_length_le ?_) ?_; rotate_left 1; rfl; (simp; done)
        intro ph1 ch1 h1
        have h1n := BS.len h1
        focus
          refine GOps.w rfl rfl rfl rfl (gop_call rfl Try.call17 rfl ?_ (g_vopen _ _ _ _ ?_ ?_ ?_)) ?_
          · intro _ h; cases h; done
          rotate_left 1
          · assumption
          · omega
        rintro _ Hxh7 ⟨⟨gh2, ph3, ch4, rfl, lh5, rh6⟩, xh7⟩
        simp at lh5
        have xh7l := HExt.len xh7; try simp at xh7l
        refine GOps.r rfl rfl rfl rfl (grd_assign rfl rfl) ?_
        refine GOps.nil ?_
        refine GWP.seq ?_
        refine GWP.region ?_
        refine GOps.r rfl rfl rfl rfl (grd_move rfl rfl) ?_
        focus
          refine GOps.r rfl rfl rfl rfl (grd_indexBS (q := ?_) (L := ?_) tab_is rfl rfl rfl rfl rfl ?_ ?_ ?_) ?_
          rotate_left 2
          focus
            refine BS.ext (by assumption) ?_
            refine HExt.tr ?_ (by assumption) ?_
            refine HExt.push ?_
            · exact HExt.refl _ _
            · intro _ h; cases h; done
          · rfl
          · exact Nat.le_of_ble_eq_true rfl
        focus
          refine GOps.re rfl rfl rfl rfl (grd_loadBSK (n := ?_) (c := ?_) (L := ?_) (u := ?_) tab_is rfl rfl rfl rfl ?_ ?_ ?_) ?_
          rotate_left 4
          focus
            refine BS.ext (by assumption) ?_
            refine HExt.tr ?_ (by assumption) ?_
            refine HExt.push ?_
            · exact HExt.refl _ _
            · intro _ h; cases h; done
          · exact Nat.le_of_ble_eq_true rfl
          · simp only [List.getD_cons_zero]; rfl
        focus
          refine GOps.r rfl rfl rfl rfl (grd_build (cs := ?_) tab_is rfl rfl rfl ?_ rfl ?_) ?_
          rotate_left 1
          · decide
          · simp [gfill, gsets, Value.cells]; rfl
        focus
          refine GOps.w1 rfl rfl rfl rfl (gop_alloc' (id := ?_) ?_ tab_is rfl rfl ?_) ?_
          rotate_left 1
          · rfl
          · decide
        focus
          refine GOps.s rfl rfl rfl (gop_storeC (b := ?_) (cs := ?_) tab_is rfl rfl ?_ rfl rfl ?_ ?_ ?_ ?_ ?_ ?_) ?_
          rotate_left 2
          · rfl
          · rfl
          · exact Hp.at_push_eq
          · rfl
          · decide
          · exact .inr (by simp; omega)
          · simp [splice, Value.cells]; rfl
        refine GOps.nil ?_
        refine GWP.seq ?_
        refine GWP.seq ?_
        refine GWP.region ?_
        refine GOps.r rfl rfl rfl rfl (grd_fieldAddr tab_is rfl rfl rfl rfl rfl) ?_
        focus
          refine GOps.r rfl rfl rfl rfl (grd_load1 (b := ?_) (v := ?_) tab_is rfl rfl rfl rfl ?_ ?_) ?_
          rotate_left 2
          refine Hp.at_put_eq ?_
          · simp; done
          · rfl
        refine GOps.nil ?_
        refine GWP.block ?_
        refine GWP.seq ?_
        refine GWP.region ?_
        refine GOps.r rfl rfl rfl rfl (grd_eql rfl rfl rfl) ?_
        refine GOps.r rfl rfl rfl rfl (grd_assign rfl rfl) ?_
        refine GOps.nil ?_
        refine GWP.cond_f rfl ?_ ?_
        · exact decide_eq_false (by omega)
        refine GWP.seq ?_
        refine GWP.region ?_
        refine GOps.r rfl rfl rfl rfl (grd_eql rfl rfl rfl) ?_
        refine GOps.r rfl rfl rfl rfl (grd_assign rfl rfl) ?_
        refine GOps.nil ?_
        refine GWP.cond_t rfl ?_ ?_
        · exact decide_eq_true (by omega)
        refine GWP.seq ?_
        refine GWP.region ?_
        refine GOps.r rfl rfl rfl rfl (grd_move rfl rfl) ?_
        focus
          refine gops_bs rfl rfl rfl rfl (grd_slBS (l := ?_) (h := ?_) (m2 := ?_) (L := ?_) (M := ?_) tab_is rfl rfl rfl rfl ?_ ?_ ?_ ?_ ?_ ?_ ?_) ?_
          rotate_left 5
          focus
            refine BS.ext (by assumption) ?_
            refine HExt.put ?_ ?_
            refine HExt.push ?_
            refine HExt.tr ?_ (by assumption) ?_
            refine HExt.push ?_
            · exact HExt.refl _ _
            · intro _ h; cases h; done
            · exact .inr (by omega)
          · refine gbound_const ?_; exact rfl
          · exact rfl
          · exact Nat.le_of_ble_eq_true rfl
          · omega
          · simp; rfl
          · refine Eq.trans (List.take_of_length_le ?_) ?_; rotate_left 1; rfl; (simp; done)
        intro ph8 ch8 h8
        have h8n := BS.len h8
        refine GOps.w1 rfl rfl rfl rfl (gop_call rfl Try.call50 rfl ?_ (hN _ _ _ _ ?_ ?_)) ?_
        · intro _ h; cases h; done
        · assumption
        · omega
        refine GOps.r rfl rfl rfl rfl (grd_move rfl rfl) ?_
        focus
          refine GOps.r rfl rfl rfl rfl (grd_extract (v := ?_) rfl rfl ?_) ?_
          rotate_left 1
          · simp only [List.getElem?_toArray, List.getElem?_cons_zero, List.getElem?_cons_succ]; rfl
        focus
          refine GOps.r rfl rfl rfl rfl (grd_extract (v := ?_) rfl rfl ?_) ?_
          rotate_left 1
          · simp only [List.getElem?_toArray, List.getElem?_cons_zero, List.getElem?_cons_succ]; rfl
        focus
          refine GOps.r rfl rfl rfl rfl (grd_extract (v := ?_) rfl rfl ?_) ?_
          rotate_left 1
          · simp only [List.getElem?_toArray, List.getElem?_cons_zero, List.getElem?_cons_succ]; rfl
        refine GOps.r rfl rfl rfl rfl (grd_assign rfl rfl) ?_
        refine GOps.r rfl rfl rfl rfl (grd_assign rfl rfl) ?_
        refine GOps.r rfl rfl rfl rfl (grd_assign rfl rfl) ?_
        refine GOps.nil ?_
        refine GWP.seq ?_
        refine GWP.seq ?_
        refine GWP.region ?_
        refine GOps.r rfl rfl rfl rfl (grd_move rfl rfl) ?_
        refine GOps.r rfl rfl rfl rfl (grd_neq rfl rfl rfl) ?_
        refine GOps.r rfl rfl rfl rfl (grd_move rfl rfl) ?_
        refine GOps.take rfl rfl ?_ ?_
        · simp; done
        refine GOps.r rfl rfl rfl rfl (grd_move rfl rfl) ?_
        refine GOps.take rfl rfl ?_ ?_
        · simp; done
        refine GOps.r rfl rfl rfl rfl (grd_geq rfl rfl rfl) ?_
        refine GOps.r rfl rfl rfl rfl (grd_pick_f rfl rfl ?_ rfl) ?_
        · exact decide_eq_false (by omega)
        refine GOps.nil ?_
        refine GWP.cond_t rfl ?_ ?_
        · exact decide_eq_true (by omega)
        refine GWP.seq ?_
        refine GWP.region ?_
        focus
          refine GOps.r rfl rfl rfl rfl (grd_build (cs := ?_) tab_is rfl rfl rfl ?_ rfl ?_) ?_
          rotate_left 1
          · decide
          · simp [gfill, gsets, Value.cells]; rfl
        focus
          refine GOps.s rfl rfl rfl (gop_storeC (b := ?_) (cs := ?_) tab_is rfl rfl ?_ rfl rfl ?_ ?_ ?_ ?_ ?_ ?_) ?_
          rotate_left 2
          · rfl
          · rfl
          refine (Hp.at_put_ne ?_).trans ?_
          · omega
          refine (Hp.at_push_lt ?_).trans ?_
          · omega
          refine (HExt.eq (by assumption) _ ?_ ?_).trans ?_
          · simp; done
          · intro h; cases h; done
          · exact Hp.at_push_eq
          · rfl
          · decide
          · exact .inr (by simp)
          · simp [splice, Value.cells]; rfl
        refine GOps.r rfl rfl rfl rfl (grd_assign rfl rfl) ?_
        refine GOps.nil ?_
        refine GWP.ret ?_
        focus
          refine ⟨_, (.two (gres_cellNK (b := ?_) (cs := ?_) rfl rfl rfl ?_ ?_ ?_) (.one rfl)), ?_⟩
          rotate_left 2
          refine Hp.at_put_eq ?_
          · simp; omega
          · decide
          · simp [Value.cells]; rfl
        refine ⟨?_, ?_⟩
        · rfl
        refine HExt.put ?_ ?_
        refine HExt.put ?_ ?_
        refine HExt.push ?_
        refine HExt.tr ?_ (by assumption) ?_
        refine HExt.push ?_
        · exact HExt.refl _ _
        · intro _ h; cases h; done
        · exact .inr (by omega)
        · exact .inr (by omega)
  · clear hno hq2
    refine GCalls.body tab_is Try.func34 rfl Try.results34 Try.ntmps34 (by simp) ?_ ?_
    · first | (intro _ h; cases h; done) | (simp; done) | (simp; omega) | (intro i hi; simp at hi; rcases hi with rfl | rfl <;> omega) | (intro i hi; simp at hi; rcases hi with rfl | rfl | rfl <;> omega)
    focus
      refine GWP.seq ?_
      refine GWP.region ?_
      focus
        refine GOps.w1 rfl rfl rfl rfl (gop_alloc' (id := ?_) ?_ tab_is rfl rfl ?_) ?_
        rotate_left 1
        · rfl
        · decide
      refine GOps.r rfl rfl rfl rfl (grd_assign rfl rfl) ?_
      refine GOps.nil ?_
      refine GWP.seq ?_
      refine GWP.seq ?_
      refine GWP.region ?_
      refine GOps.r rfl rfl rfl rfl (grd_move rfl rfl) ?_
      refine GOps.r rfl rfl rfl rfl (grd_len tab_is rfl rfl rfl rfl rfl) ?_
      refine GOps.r rfl rfl rfl rfl (grd_eql rfl rfl rfl) ?_
      refine GOps.nil ?_
      refine GWP.cond_f rfl ?_ ?_
      · exact decide_eq_false (by omega)
      refine GWP.skip ?_
      refine GWP.seq ?_
      refine GWP.region ?_
      refine GOps.r rfl rfl rfl rfl (grd_move rfl rfl) ?_
      focus
        refine gops_bs rfl rfl rfl rfl (grd_slBS (l := ?_) (h := ?_) (m2 := ?_) (L := ?_) (M := ?_) tab_is rfl rfl rfl rfl ?_ ?_ ?_ ?_ ?_ ?_ ?_) ?_
        rotate_left 5
        focus
          refine BS.ext (by assumption) ?_
          refine HExt.push ?_
          · exact HExt.refl _ _
        · refine gbound_const ?_; exact rfl
        · exact rfl
        · exact Nat.le_of_ble_eq_true rfl
        · omega
        · simp; rfl
        · refine Eq.trans (List.take_of_length_le ?_) ?_; rotate_left 1; rfl; (simp; done)
      intro pi1 ci1 i1
      have i1n := BS.len i1
      focus
        refine GOps.w rfl rfl rfl rfl (gop_call rfl Try.call17 rfl ?_ (g_vopen _ _ _ _ ?_ ?_ ?_)) ?_
        · intro _ h; cases h; done
        rotate_left 1
        · assumption
        · omega
      rintro _ Hxi7 ⟨⟨gi2, pi3, ci4, rfl, li5, ri6⟩, xi7⟩
      simp at li5
      have xi7l := HExt.len xi7; try simp at xi7l
      refine GOps.r rfl rfl rfl rfl (grd_assign rfl rfl) ?_
      refine GOps.nil ?_
      refine GWP.seq ?_
      refine GWP.region ?_
      refine GOps.r rfl rfl rfl rfl (grd_move rfl rfl) ?_
      focus
        refine GOps.r rfl rfl rfl rfl (grd_indexBS (q := ?_) (L := ?_) tab_is rfl rfl rfl rfl rfl ?_ ?_ ?_) ?_
        rotate_left 2
        focus
          refine BS.ext (by assumption) ?_
          refine HExt.tr ?_ (by assumption) ?_
          refine HExt.push ?_
          · exact HExt.refl _ _
          · intro _ h; cases h; done
        · rfl
        · exact Nat.le_of_ble_eq_true rfl
      focus
        refine GOps.re rfl rfl rfl rfl (grd_loadBSK (n := ?_) (c := ?_) (L := ?_) (u := ?_) tab_is rfl rfl rfl rfl ?_ ?_ ?_) ?_
        rotate_left 4
        focus
          refine BS.ext (by assumption) ?_
          refine HExt.tr ?_ (by assumption) ?_
          refine HExt.push ?_
          · exact HExt.refl _ _
          · intro _ h; cases h; done
        · exact Nat.le_of_ble_eq_true rfl
        · simp only [List.getD_cons_zero]; rfl
      focus
        refine GOps.r rfl rfl rfl rfl (grd_build (cs := ?_) tab_is rfl rfl rfl ?_ rfl ?_) ?_
        rotate_left 1
        · decide
        · simp [gfill, gsets, Value.cells]; rfl
      focus
        refine GOps.w1 rfl rfl rfl rfl (gop_alloc' (id := ?_) ?_ tab_is rfl rfl ?_) ?_
        rotate_left 1
        · rfl
        · decide
      focus
        refine GOps.s rfl rfl rfl (gop_storeC (b := ?_) (cs := ?_) tab_is rfl rfl ?_ rfl rfl ?_ ?_ ?_ ?_ ?_ ?_) ?_
        rotate_left 2
        · rfl
        · rfl
        · exact Hp.at_push_eq
        · rfl
        · decide
        · exact .inr (by simp; omega)
        · simp [splice, Value.cells]; rfl
      refine GOps.nil ?_
      refine GWP.seq ?_
      refine GWP.seq ?_
      refine GWP.region ?_
      refine GOps.r rfl rfl rfl rfl (grd_fieldAddr tab_is rfl rfl rfl rfl rfl) ?_
      focus
        refine GOps.r rfl rfl rfl rfl (grd_load1 (b := ?_) (v := ?_) tab_is rfl rfl rfl rfl ?_ ?_) ?_
        rotate_left 2
        refine Hp.at_put_eq ?_
        · simp; done
        · rfl
      refine GOps.nil ?_
      refine GWP.block ?_
      refine GWP.seq ?_
      refine GWP.region ?_
      refine GOps.r rfl rfl rfl rfl (grd_eql rfl rfl rfl) ?_
      refine GOps.r rfl rfl rfl rfl (grd_assign rfl rfl) ?_
      refine GOps.nil ?_
      refine GWP.cond_f rfl ?_ ?_
      · exact decide_eq_false (by omega)
      refine GWP.seq ?_
      refine GWP.region ?_
      refine GOps.r rfl rfl rfl rfl (grd_eql rfl rfl rfl) ?_
      refine GOps.r rfl rfl rfl rfl (grd_assign rfl rfl) ?_
      refine GOps.nil ?_
      refine GWP.cond_t rfl ?_ ?_
      · exact decide_eq_true (by omega)
      refine GWP.seq ?_
      refine GWP.region ?_
      refine GOps.r rfl rfl rfl rfl (grd_move rfl rfl) ?_
      focus
        refine gops_bs rfl rfl rfl rfl (grd_slBS (l := ?_) (h := ?_) (m2 := ?_) (L := ?_) (M := ?_) tab_is rfl rfl rfl rfl ?_ ?_ ?_ ?_ ?_ ?_ ?_) ?_
        rotate_left 5
        focus
          refine BS.ext (by assumption) ?_
          refine HExt.put ?_ ?_
          refine HExt.push ?_
          refine HExt.tr ?_ (by assumption) ?_
          refine HExt.push ?_
          · exact HExt.refl _ _
          · intro _ h; cases h; done
          · exact .inr (by omega)
        · refine gbound_const ?_; exact rfl
        · exact rfl
        · exact Nat.le_of_ble_eq_true rfl
        · omega
        · simp; rfl
        · refine Eq.trans (List.take_of_length_le ?_) ?_; rotate_left 1; rfl; (simp; done)
      intro pi8 ci8 i8
      have i8n := BS.len i8
      refine GOps.w1 rfl rfl rfl rfl (gop_call rfl Try.call50 rfl ?_ (hN _ _ _ _ ?_ ?_)) ?_
      · intro _ h; cases h; done
      · assumption
      · omega
      refine GOps.r rfl rfl rfl rfl (grd_move rfl rfl) ?_
      focus
        refine GOps.r rfl rfl rfl rfl (grd_extract (v := ?_) rfl rfl ?_) ?_
        rotate_left 1
        · simp only [List.getElem?_toArray, List.getElem?_cons_zero, List.getElem?_cons_succ]; rfl
      focus
        refine GOps.r rfl rfl rfl rfl (grd_extract (v := ?_) rfl rfl ?_) ?_
        rotate_left 1
        · simp only [List.getElem?_toArray, List.getElem?_cons_zero, List.getElem?_cons_succ]; rfl
      focus
        refine GOps.r rfl rfl rfl rfl (grd_extract (v := ?_) rfl rfl ?_) ?_
        rotate_left 1
        · simp only [List.getElem?_toArray, List.getElem?_cons_zero, List.getElem?_cons_succ]; rfl
      refine GOps.r rfl rfl rfl rfl (grd_assign rfl rfl) ?_
      refine GOps.r rfl rfl rfl rfl (grd_assign rfl rfl) ?_
      refine GOps.r rfl rfl rfl rfl (grd_assign rfl rfl) ?_
      refine GOps.nil ?_
      refine GWP.seq ?_
      refine GWP.seq ?_
      refine GWP.region ?_
      refine GOps.r rfl rfl rfl rfl (grd_move rfl rfl) ?_
      refine GOps.r rfl rfl rfl rfl (grd_neq rfl rfl rfl) ?_
      refine GOps.r rfl rfl rfl rfl (grd_move rfl rfl) ?_
      refine GOps.no rfl ?_ rfl rfl ?_
      · simp; omega
      refine GOps.no rfl ?_ rfl rfl ?_
      · simp; omega
      refine GOps.r rfl rfl rfl rfl (grd_pick_t rfl rfl ?_ rfl) ?_
      · exact decide_eq_true (by omega)
      refine GOps.nil ?_
      refine GWP.cond_t rfl ?_ ?_
      · with_reducible rfl
      refine GWP.seq ?_
      refine GWP.region ?_
      focus
        refine GOps.r rfl rfl rfl rfl (grd_build (cs := ?_) tab_is rfl rfl rfl ?_ rfl ?_) ?_
        rotate_left 1
        · decide
        · simp [gfill, gsets, Value.cells]; rfl
      focus
        refine GOps.s rfl rfl rfl (gop_storeC (b := ?_) (cs := ?_) tab_is rfl rfl ?_ rfl rfl ?_ ?_ ?_ ?_ ?_ ?_) ?_
        rotate_left 2
        · rfl
        · rfl
        refine (Hp.at_put_ne ?_).trans ?_
        · omega
        refine (Hp.at_push_lt ?_).trans ?_
        · omega
        refine (HExt.eq (by assumption) _ ?_ ?_).trans ?_
        · simp; done
        · intro h; cases h; done
        · exact Hp.at_push_eq
        · rfl
        · decide
        · exact .inr (by simp)
        · simp [splice, Value.cells]; rfl
      refine GOps.r rfl rfl rfl rfl (grd_assign rfl rfl) ?_
      refine GOps.nil ?_
      refine GWP.ret ?_
      focus
        refine ⟨_, (.two (gres_cellNK (b := ?_) (cs := ?_) rfl rfl rfl ?_ ?_ ?_) (.one rfl)), ?_⟩
        rotate_left 2
        refine Hp.at_put_eq ?_
        · simp; omega
        · decide
        · simp [Value.cells]; rfl
      refine ⟨?_, ?_⟩
      · rfl
      refine HExt.put ?_ ?_
      refine HExt.put ?_ ?_
      refine HExt.push ?_
      refine HExt.tr ?_ (by assumption) ?_
      refine HExt.push ?_
      · exact HExt.refl _ _
      · intro _ h; cases h; done
      · exact .inr (by omega)
      · exact .inr (by omega)
set_option maxHeartbeats 4000000 in
set_option maxRecDepth 100000 in
set_option linter.unusedSimpArgs false in
theorem g_parse2a (H : Hp) (j off n c : Nat) (M : List UInt8) (hbs : BS H (.slice (some ⟨j, off, none⟩) n c) (2 :: M)) (hn : n ≤ 35184372088832) (q1 q2 : Nat) (hq : next M = (q1, q2, 0)) (hq2 : q2 ≤ M.length) (h1 : q1 < 256) (hd : dataOk q1 (n - (1 + q2))) : GCalls Try.prog 34 [.slice (some ⟨j, off, none⟩) n c] [] H fun v H' => v = .tuple #[recV 2 0 0 q1 ((q1 + (n - (1 + q2)) / 32 : Nat) : Int) (.slice (some ⟨j, off + (1 + q2), none⟩) (n - (1 + q2)) (capS c (1 + q2))) 0 0 0, .int .i64 0] ∧ HExt [] H H' := by
  have hl := hbs.len
  simp only [List.length_cons] at hl
  have hN : ∀ H p n c, BS H (.slice p n c) M → n ≤ 9223372036854775000 → GCalls Try.prog 50 [.slice p n c] [] H fun v H' => v = .tuple #[.int .u64 (q1 : Int), .int .i64 (q2 : Int), .int .i64 (0 : Int)] ∧ H' = H := fun H p n c h1 h2 => by
    have := g_next H p n c M h1 h2
    rw [hq] at this
    exact this
  clear hq
  cases hbs with
  | some hb hs hl2 hof hu =>
    rename_i t2 rw2 cs2
    have hbs : BS H (.slice (some ⟨j, off, none⟩) n c) (2 :: M) := .some hb hs hl2 hof hu
    have hlt := Hp.at_lt hb
    have hO : ∀ H' o c', o = off + 1 → HExt [] H H' → GCalls Try.prog 17 [.slice (some ⟨j, o, none⟩) (n - 1) c'] [] H' fun v H'' => (∃ g, v = .pointer (some ⟨g, 0, none⟩)) ∧ HExt [] H' H'' := fun H' o c' ho hx => (g_vopen H' _ (n - 1) c' M (bs_subE (l := 1) (hbs.ext hx) ho (by omega) (by simp only [List.drop_succ_cons, List.drop_zero]; exact List.take_of_length_le (by omega))) (by omega)).mono fun v H2 ⟨⟨g, _, _, e, _⟩, x⟩ => ⟨⟨g, e⟩, x⟩
    have hN2 : ∀ H' o c', o = off + 1 → HExt [] H H' → GCalls Try.prog 50 [.slice (some ⟨j, o, none⟩) (n - 1) c'] [] H' fun v H'' => v = .tuple #[.int .u64 (q1 : Int), .int .i64 (q2 : Int), .int .i64 (0 : Int)] ∧ H'' = H' := fun H' o c' ho hx => hN H' _ _ _ (bs_subE (l := 1) (hbs.ext hx) ho (by omega) (by simp only [List.drop_succ_cons, List.drop_zero]; exact List.take_of_length_le (by omega))) (by omega)
    have hcell : cs2[off + 0]? = some (.int .u8 2) := by
      have e : ((cs2.drop off).take n)[0]? = some (.int .u8 2) := by rw [hs]; rfl
      rw [List.getElem?_take, if_pos (by omega), List.getElem?_drop] at e
      exact e
    clear hN
    refine GCalls.body tab_is Try.func34 rfl Try.results34 Try.ntmps34 (by simp) ?_ ?_
    · first | (intro _ h; cases h; done) | (simp; done) | (simp; omega) | (intro i hi; simp at hi; rcases hi with rfl | rfl <;> omega) | (intro i hi; simp at hi; rcases hi with rfl | rfl | rfl <;> omega)
    focus
      refine GWP.seq ?_
      refine GWP.region ?_
      focus
        refine GOps.w1 rfl rfl rfl rfl (gop_alloc' (id := ?_) ?_ tab_is rfl rfl ?_) ?_
        rotate_left 1
        · rfl
        · decide
      refine GOps.r rfl rfl rfl rfl (grd_assign rfl rfl) ?_
      refine GOps.nil ?_
      refine GWP.seq ?_
      refine GWP.seq ?_
      refine GWP.region ?_
      refine GOps.r rfl rfl rfl rfl (grd_move rfl rfl) ?_
      refine GOps.r rfl rfl rfl rfl (grd_len tab_is rfl rfl rfl rfl rfl) ?_
      refine GOps.r rfl rfl rfl rfl (grd_eql rfl rfl rfl) ?_
      refine GOps.nil ?_
      refine GWP.cond_f rfl ?_ ?_
      · exact decide_eq_false (by omega)
      refine GWP.skip ?_
      refine GWP.seq ?_
      refine GWP.region ?_
      refine GOps.r rfl rfl rfl rfl (grd_move rfl rfl) ?_
      focus
        refine GOps.r rfl rfl rfl rfl (grd_slL (l := ?_) (h := ?_) (o2 := ?_) (m2 := ?_) (b := ?_) tab_is rfl rfl rfl rfl ?_ ?_ ?_ ?_ ?_ ?_ ?_ ?_) ?_
        rotate_left 5
        refine (Hp.at_push_lt ?_).trans ?_
        · omega
        · assumption
        · rfl
        · refine gbound_const ?_; exact rfl
        · exact rfl
        · simp; omega
        · omega
        · simp; rfl
        · simp; rfl
      refine GOps.w rfl rfl rfl rfl (gop_call rfl Try.call17 rfl ?_ (hO _ _ _ ?_ ?_)) ?_
      · intro _ h; cases h; done
      · rfl
      refine HExt.push ?_
      · exact HExt.refl _ _
      rintro _ Hxf2 ⟨⟨gf1, rfl⟩, xf2⟩
      have xf2l := HExt.len xf2; try simp at xf2l
      refine GOps.r rfl rfl rfl rfl (grd_assign rfl rfl) ?_
      refine GOps.nil ?_
      refine GWP.seq ?_
      refine GWP.region ?_
      refine GOps.r rfl rfl rfl rfl (grd_move rfl rfl) ?_
      refine GOps.r rfl rfl rfl rfl (grd_indexAddr1 tab_is rfl rfl rfl rfl rfl ?_) ?_
      · simp; omega
      focus
        refine GOps.r rfl rfl rfl rfl (grd_load1 (b := ?_) (v := ?_) tab_is rfl rfl rfl rfl ?_ ?_) ?_
        rotate_left 2
        refine (HExt.eq (by assumption) _ ?_ ?_).trans ?_
        · simp; omega
        · intro h; cases h; done
        refine (Hp.at_push_lt ?_).trans ?_
        · omega
        · assumption
        · assumption
      focus
        refine GOps.r rfl rfl rfl rfl (grd_build (cs := ?_) tab_is rfl rfl rfl ?_ rfl ?_) ?_
        rotate_left 1
        · decide
        · simp [gfill, gsets, Value.cells]; rfl
      focus
        refine GOps.w1 rfl rfl rfl rfl (gop_alloc' (id := ?_) ?_ tab_is rfl rfl ?_) ?_
        rotate_left 1
        · rfl
        · decide
      focus
        refine GOps.s rfl rfl rfl (gop_storeC (b := ?_) (cs := ?_) tab_is rfl rfl ?_ rfl rfl ?_ ?_ ?_ ?_ ?_ ?_) ?_
        rotate_left 2
        · rfl
        · rfl
        · exact Hp.at_push_eq
        · rfl
        · decide
        · exact .inr (by simp; omega)
        · simp [splice, Value.cells]; rfl
      refine GOps.nil ?_
      refine GWP.seq ?_
      refine GWP.seq ?_
      refine GWP.region ?_
      refine GOps.r rfl rfl rfl rfl (grd_fieldAddr tab_is rfl rfl rfl rfl rfl) ?_
      focus
        refine GOps.r rfl rfl rfl rfl (grd_load1 (b := ?_) (v := ?_) tab_is rfl rfl rfl rfl ?_ ?_) ?_
        rotate_left 2
        refine Hp.at_put_eq ?_
        · simp; done
        · rfl
      refine GOps.nil ?_
      refine GWP.block ?_
      refine GWP.seq ?_
      refine GWP.region ?_
      refine GOps.r rfl rfl rfl rfl (grd_eql rfl rfl rfl) ?_
      refine GOps.r rfl rfl rfl rfl (grd_assign rfl rfl) ?_
      refine GOps.nil ?_
      refine GWP.cond_f rfl ?_ ?_
      · exact decide_eq_false (by omega)
      refine GWP.seq ?_
      refine GWP.region ?_
      refine GOps.r rfl rfl rfl rfl (grd_eql rfl rfl rfl) ?_
      refine GOps.r rfl rfl rfl rfl (grd_assign rfl rfl) ?_
      refine GOps.nil ?_
      refine GWP.cond_t rfl ?_ ?_
      · exact decide_eq_true (by omega)
      refine GWP.seq ?_
      refine GWP.region ?_
      refine GOps.r rfl rfl rfl rfl (grd_move rfl rfl) ?_
      focus
        refine GOps.r rfl rfl rfl rfl (grd_slL (l := ?_) (h := ?_) (o2 := ?_) (m2 := ?_) (b := ?_) tab_is rfl rfl rfl rfl ?_ ?_ ?_ ?_ ?_ ?_ ?_ ?_) ?_
        rotate_left 5
        refine (Hp.at_put_ne ?_).trans ?_
        · omega
        refine (Hp.at_push_lt ?_).trans ?_
        · omega
        refine (HExt.eq (by assumption) _ ?_ ?_).trans ?_
        · simp; omega
        · intro h; cases h; done
        refine (Hp.at_push_lt ?_).trans ?_
        · omega
        · assumption
        · rfl
        · refine gbound_const ?_; exact rfl
        · exact rfl
        · simp; omega
        · omega
        · simp; rfl
        · simp; rfl
      refine GOps.w1 rfl rfl rfl rfl (gop_call rfl Try.call50 rfl ?_ (hN2 _ _ _ ?_ ?_)) ?_
      · intro _ h; cases h; done
      · rfl
      refine HExt.put ?_ ?_
      refine HExt.push ?_
      refine HExt.tr ?_ (by assumption) ?_
      refine HExt.push ?_
      · exact HExt.refl _ _
      · intro _ h; cases h; done
      · exact .inr (by omega)
      refine GOps.r rfl rfl rfl rfl (grd_move rfl rfl) ?_
      focus
        refine GOps.r rfl rfl rfl rfl (grd_extract (v := ?_) rfl rfl ?_) ?_
        rotate_left 1
        · simp only [List.getElem?_toArray, List.getElem?_cons_zero, List.getElem?_cons_succ]; rfl
      focus
        refine GOps.r rfl rfl rfl rfl (grd_extract (v := ?_) rfl rfl ?_) ?_
        rotate_left 1
        · simp only [List.getElem?_toArray, List.getElem?_cons_zero, List.getElem?_cons_succ]; rfl
      focus
        refine GOps.r rfl rfl rfl rfl (grd_extract (v := ?_) rfl rfl ?_) ?_
        rotate_left 1
        · simp only [List.getElem?_toArray, List.getElem?_cons_zero, List.getElem?_cons_succ]; rfl
      refine GOps.r rfl rfl rfl rfl (grd_assign rfl rfl) ?_
      refine GOps.r rfl rfl rfl rfl (grd_assign rfl rfl) ?_
      refine GOps.r rfl rfl rfl rfl (grd_assign rfl rfl) ?_
      refine GOps.nil ?_
      refine GWP.seq ?_
      refine GWP.seq ?_
      refine GWP.region ?_
      refine GOps.r rfl rfl rfl rfl (grd_move rfl rfl) ?_
      refine GOps.r rfl rfl rfl rfl (grd_neq rfl rfl rfl) ?_
      refine GOps.r rfl rfl rfl rfl (grd_move rfl rfl) ?_
      refine GOps.take rfl rfl ?_ ?_
      · simp; done
      refine GOps.r rfl rfl rfl rfl (grd_move rfl rfl) ?_
      refine GOps.take rfl rfl ?_ ?_
      · simp; done
      refine GOps.r rfl rfl rfl rfl (grd_geq rfl rfl rfl) ?_
      refine GOps.r rfl rfl rfl rfl (grd_pick_f rfl rfl ?_ rfl) ?_
      · exact decide_eq_false (by omega)
      refine GOps.nil ?_
      refine GWP.cond_f rfl ?_ ?_
      · exact decide_eq_false (by omega)
      refine GWP.skip ?_
      refine GWP.seq ?_
      refine GWP.region ?_
      refine GOps.r rfl rfl rfl rfl (grd_move rfl rfl) ?_
      refine GOps.r rfl rfl rfl rfl (grd_conv_in tab_is rfl rfl rfl rfl rfl ?_) ?_
      · refine wrap_i64_in ?_; omega
      refine GOps.r rfl rfl rfl rfl (grd_move rfl rfl) ?_
      refine GOps.r rfl rfl rfl rfl (grd_move rfl rfl) ?_
      refine GOps.r rfl rfl rfl rfl (grd_add64 rfl rfl rfl ?_) ?_
      · omega
      focus
        refine GOps.r rfl rfl rfl rfl (grd_slL (l := ?_) (h := ?_) (o2 := ?_) (m2 := ?_) (b := ?_) tab_is rfl rfl rfl rfl ?_ ?_ ?_ ?_ ?_ ?_ ?_ ?_) ?_
        rotate_left 5
        refine (Hp.at_put_ne ?_).trans ?_
        · omega
        refine (Hp.at_push_lt ?_).trans ?_
        · omega
        refine (HExt.eq (by assumption) _ ?_ ?_).trans ?_
        · simp; omega
        · intro h; cases h; done
        refine (Hp.at_push_lt ?_).trans ?_
        · omega
        · assumption
        · rfl
        · refine gbound_tmp rfl ?_; exact rfl
        · exact rfl
        · simp; omega
        · omega
        · simp; rfl
        · simp; rfl
      refine GOps.w rfl rfl rfl rfl (gop_call rfl Try.call55 rfl ?_ (g_rdata _ _ ?_ _ _ _ ?_ ?_)) ?_
      · intro _ h; cases h; done
      · omega
      · omega
      · assumption
      rintro _ Hxf3 ⟨rfl, xf3⟩
      have xf3l := HExt.len xf3; try simp at xf3l
      focus
        refine GOps.r rfl rfl rfl rfl (grd_extract (v := ?_) rfl rfl ?_) ?_
        rotate_left 1
        · simp only [List.getElem?_toArray, List.getElem?_cons_zero, List.getElem?_cons_succ]; rfl
      focus
        refine GOps.r rfl rfl rfl rfl (grd_extract (v := ?_) rfl rfl ?_) ?_
        rotate_left 1
        · simp only [List.getElem?_toArray, List.getElem?_cons_zero, List.getElem?_cons_succ]; rfl
      focus
        refine GOps.s rfl rfl rfl (gop_storeC (b := ?_) (cs := ?_) tab_is rfl rfl ?_ rfl rfl ?_ ?_ ?_ ?_ ?_ ?_) ?_
        rotate_left 2
        · rfl
        · rfl
        refine (HExt.eq (by assumption) _ ?_ ?_).trans ?_
        · simp; omega
        · intro h; cases h; done
        refine (Hp.at_put_ne ?_).trans ?_
        · omega
        refine (Hp.at_push_lt ?_).trans ?_
        · omega
        refine (HExt.eq (by assumption) _ ?_ ?_).trans ?_
        · simp; done
        · intro h; cases h; done
        · exact Hp.at_push_eq
        · rfl
        · exact Nat.le_of_ble_eq_true rfl
        · exact .inr (by simp)
        · simp [splice, Value.cells]; rfl
      refine GOps.r rfl rfl rfl rfl (grd_assign rfl rfl) ?_
      refine GOps.nil ?_
      refine GWP.ret ?_
      focus
        refine ⟨_, (.two (gres_cellNK (b := ?_) (cs := ?_) rfl rfl rfl ?_ ?_ ?_) (.one rfl)), ?_⟩
        rotate_left 2
        refine Hp.at_put_eq ?_
        · omega
        · exact Nat.le_of_ble_eq_true rfl
        · simp [Value.cells]; rfl
      refine ⟨?_, ?_⟩
      · rfl
      refine HExt.put ?_ ?_
      refine HExt.tr ?_ (by assumption) ?_
      refine HExt.put ?_ ?_
      refine HExt.push ?_
      refine HExt.tr ?_ (by assumption) ?_
      refine HExt.push ?_
      · exact HExt.refl _ _
      · intro _ h; cases h; done
      · exact .inr (by omega)
      · intro _ h; cases h; done
      · exact .inr (by omega)
end Go.Proofs.Ytjlimdiimdihfaa

/- Records out of bytes: whatever kind, and out of a reader. -/
namespace Go.Proofs.Ytjlimdiimdihfaa
open Go.RowKit

instance (f n : Nat) : Decidable (dataOk f n) := by unfold dataOk; infer_instance
set_option maxHeartbeats 4000000 in
set_option maxRecDepth 100000 in
set_option linter.unusedSimpArgs false in
theorem g_parse (H : Hp) (p : Option Addr) (n c : Nat) (L : List UInt8) (hb : BS H (.slice p n c) L) (hn : n ≤ 35184372088832) : GCalls Try.prog 34 [.slice p n c] [] H fun v H' => ((parO L = none → v = .tuple #[recV 0 0 0 0 0 (.slice none 0 0) 0 0 0, .int .i64 3]) ∧ ∀ r, parO L = some r → ∃ p' n' c', v = .tuple #[r.val (.slice p' n' c'), .int .i64 0] ∧ BS H' (.slice p' n' c') r.blocks) ∧ HExt [] H H' := by
  have hfail : ∀ (v : Value) (H' : Hp), parO L = none → (v = .tuple #[recV 0 0 0 0 0 (.slice none 0 0) 0 0 0, .int .i64 3] ∧ HExt [] H H') → ((parO L = none → v = .tuple #[recV 0 0 0 0 0 (.slice none 0 0) 0 0 0, .int .i64 3]) ∧ ∀ r, parO L = some r → ∃ p' n' c', v = .tuple #[r.val (.slice p' n' c'), .int .i64 0] ∧ BS H' (.slice p' n' c') r.blocks) ∧ HExt [] H H' := fun v H' h1 h2 => ⟨⟨fun _ => h2.1, fun r hr => by rw [h1] at hr; cases hr⟩, h2.2⟩
  have hgood : ∀ (v : Value) (H' : Hp) (r : RecS), parO L = some r → r.blocks = [] → (v = .tuple #[r.val (.slice none 0 0), .int .i64 0] ∧ HExt [] H H') → ((parO L = none → v = .tuple #[recV 0 0 0 0 0 (.slice none 0 0) 0 0 0, .int .i64 3]) ∧ ∀ r, parO L = some r → ∃ p' n' c', v = .tuple #[r.val (.slice p' n' c'), .int .i64 0] ∧ BS H' (.slice p' n' c') r.blocks) ∧ HExt [] H H' := fun v H' r h1 h0 h2 => ⟨⟨fun h => (by rw [h1] at h; cases h), fun q hq => by
    rw [h1] at hq
    injection hq with hq
    subst hq
    exact ⟨none, 0, 0, h2.1, by rw [h0]; exact .none⟩⟩, h2.2⟩
  match L, hb with
  | [], hb => exact (g_parse0 H p n c hb).mono fun v H' h => hfail v H' rfl h
  | k :: M, hb =>
    by_cases k1 : k.toNat = 1
    · obtain rfl : k = 1 := UInt8.toNat_inj.1 k1
      refine (g_parse1 H p n c M hb hn _ _ rfl rfl).mono fun v H' h => ?_
      by_cases hf : ((RdS.number ⟨M, 0⟩ 1099511627776).2.number 1099511627776).2.fin ≠ 0
      · rw [if_pos hf] at h
        exact hfail v H' (by rw [parO, if_pos (show (1 : UInt8).toNat = 1 from rfl)]; exact if_pos hf) h
      · rw [if_neg hf] at h
        exact hgood v H' ⟨1, (RdS.number ⟨M, 0⟩ 1099511627776).1, ((RdS.number ⟨M, 0⟩ 1099511627776).2.number 1099511627776).1, 0, 0, [], 0, 0, 0⟩ (by rw [parO, if_pos (show (1 : UInt8).toNat = 1 from rfl)]; exact if_neg hf) rfl h
    · by_cases k2 : k.toNat = 2
      · obtain rfl : k = 2 := UInt8.toNat_inj.1 k2
        have hsz : (next M).2.2 = 0 → (next M).2.1 ≤ M.length := next_size M
        generalize hq : next M = q at hsz
        obtain ⟨q1, q2, q3⟩ := q
        simp only at hsz
        have hp : parO (2 :: M) = if q3 ≠ 0 ∨ 256 ≤ q1 then none else if dataOk q1 (M.drop q2).length then some ⟨2, 0, 0, q1, ((q1 + (M.drop q2).length / 32 : Nat) : Int), M.drop q2, 0, 0, 0⟩ else none := by
          rw [parO, if_neg (by decide), if_pos (show (2 : UInt8).toNat = 2 from rfl), hq]
          rfl
        by_cases h1 : q3 ≠ 0 ∨ 256 ≤ q1
        · exact (g_parse2no H p n c M hb hn q1 q2 q3 hq hsz (fun e1 e2 => by omega)).mono fun v H' h => hfail v H' (by rw [hp, if_pos h1]) h
        · by_cases h2 : dataOk q1 (M.drop q2).length
          · obtain rfl : q3 = 0 := by omega
            have hs0 := hsz rfl
            have hl := hb.len
            rw [List.length_cons] at hl
            have hL : (M.drop q2).length = n - (1 + q2) := by rw [List.length_drop]; omega
            match p, hb with
            | some ⟨j, off, none⟩, hb =>
              refine (g_parse2a H j off n c M hb hn q1 q2 hq hs0 (by omega) (by rw [← hL]; exact h2)).mono fun v H' ⟨e, x⟩ => ⟨⟨fun h => (by rw [hp, if_neg h1, if_pos h2] at h; cases h), fun r hr => ?_⟩, x⟩
              rw [hp, if_neg h1, if_pos h2] at hr
              injection hr with hr
              subst hr
              refine ⟨_, _, _, by rw [e, ← hL]; rfl, bs_subE (l := 1 + q2) (hb.ext x) rfl (by omega) ?_⟩
              rw [Nat.add_comm 1 q2, List.drop_succ_cons]
              exact List.take_of_length_le (by omega)
          · exact (g_parse2no H p n c M hb hn q1 q2 q3 hq hsz (fun _ _ => h2)).mono fun v H' h => hfail v H' (by rw [hp, if_neg h1, if_neg h2]) h
      · by_cases k3 : k.toNat = 3
        · obtain rfl : k = 3 := UInt8.toNat_inj.1 k3
          refine (g_parse3 H p n c M hb hn _ _ rfl rfl).mono fun v H' h => ?_
          have hp : parO (3 :: M) = if (((RdS.number ⟨M, 0⟩ 255).2.number 256).2.e = 0 ∧ ((RdS.number ⟨M, 0⟩ 255).2.number 256).1 ≤ (RdS.number ⟨M, 0⟩ 255).1) ∨ ((RdS.number ⟨M, 0⟩ 255).2.number 256).2.fin ≠ 0 then none else some ⟨3, 0, 0, (RdS.number ⟨M, 0⟩ 255).1, ((RdS.number ⟨M, 0⟩ 255).2.number 256).1, [], 0, 0, 0⟩ := by
            rw [parO, if_neg (by decide), if_neg (by decide), if_pos (show (3 : UInt8).toNat = 3 from rfl)]
          generalize RdS.number ⟨M, 0⟩ 255 = r1 at h hp
          generalize r1.2.number 256 = r2 at h hp
          by_cases hf : (r2.2.e = 0 ∧ r2.1 ≤ r1.1) ∨ r2.2.fin ≠ 0
          · rw [if_pos hf] at h
            exact hfail v H' (by rw [hp, if_pos hf]) h
          · rw [if_neg hf] at h
            exact hgood v H' ⟨3, 0, 0, r1.1, r2.1, [], 0, 0, 0⟩ (by rw [hp, if_neg hf]) rfl h
        · by_cases k4 : k.toNat = 4
          · obtain rfl : k = 4 := UInt8.toNat_inj.1 k4
            refine (g_parse4 H p n c M hb hn _ _ _ rfl rfl rfl).mono fun v H' h => ?_
            have hp : parO (4 :: M) = if (((RdS.number ⟨M, 0⟩ 1099511627776).2.number 1099511627776).2.number 2305843009213693950).2.fin ≠ 0 then none else some ⟨4, 0, 0, 0, 0, [], (RdS.number ⟨M, 0⟩ 1099511627776).1, ((RdS.number ⟨M, 0⟩ 1099511627776).2.number 1099511627776).1, (((RdS.number ⟨M, 0⟩ 1099511627776).2.number 1099511627776).2.number 2305843009213693950).1⟩ := by
              rw [parO, if_neg (by decide), if_neg (by decide), if_neg (by decide), if_pos (show (4 : UInt8).toNat = 4 from rfl)]
              rfl
            generalize RdS.number ⟨M, 0⟩ 1099511627776 = r1 at h hp
            generalize r1.2.number 1099511627776 = r2 at h hp
            generalize r2.2.number 2305843009213693950 = r3 at h hp
            by_cases hf : r3.2.fin ≠ 0
            · rw [if_pos hf] at h
              exact hfail v H' (by rw [hp, if_pos hf]) h
            · rw [if_neg hf] at h
              exact hgood v H' ⟨4, 0, 0, 0, 0, [], r1.1, r2.1, r3.1⟩ (by rw [hp, if_neg hf]) rfl h
          · exact (g_parse5 H p n c k M hb hn (by omega)).mono fun v H' h => hfail v H' (by rw [parO, if_neg k1, if_neg k2, if_neg k3, if_neg k4]) h
/-- The record that a reader has next, or what is wrong. -/
def rdrO (s : RdS) : Nat ⊕ RecS :=
  if (s.bytes 200).2.e ≠ 0 then .inl (s.bytes 200).2.e else match openL (s.bytes 200).1 with
    | none => .inl 4
    | some b => match parO b with
      | none => .inl 3
      | some r => .inr r
theorem bytes_len (s : RdS) (m : Int) : (s.bytes m).1.length ≤ (max m 0).toNat := by
  have := number_le' s (max m 0).toNat
  unfold RdS.bytes
  simp only
  split
  · simp
  · split
    · simp
    · simp only [List.length_take]
      omega
theorem openL_len {L b : List UInt8} (h : openL L = some b) : b.length ≤ L.length := by
  unfold openL at h
  split at h
  · injection h with h
    subst h
    simp only [List.length_take]
    omega
  · cases h
/-- What a read comes to. -/
def rdrP (T : TypeId) (H : Hp) (g : Nat) (s : RdS) (v : Value) (H' : Hp) : Prop := ((∀ e, rdrO s = .inl e → v = .tuple #[recV 0 0 0 0 0 (.slice none 0 0) 0 0 0, .int .i64 (e : Int)]) ∧ ∀ r, rdrO s = .inr r → ∃ p' n' c', v = .tuple #[r.val (.slice p' n' c'), .int .i64 0] ∧ BS H' (.slice p' n' c') r.blocks) ∧ (∃ p' c', RG T H' g p' c' (s.bytes 200).2) ∧ BSk H H' ∧ HExt [g] H H'
theorem rdrP_bad {T : TypeId} {H H' : Hp} {g : Nat} {s s2 : RdS} {v : Value} {e : Nat} (ho : rdrO s = .inl e) (hs : (s.bytes 200).2 = s2) (h : v = .tuple #[recV 0 0 0 0 0 (.slice none 0 0) 0 0 0, .int .i64 (e : Int)] ∧ (∃ p' c', RG T H' g p' c' s2) ∧ BSk H H' ∧ HExt [g] H H') : rdrP T H g s v H' := by
  subst hs
  exact ⟨⟨fun e' h' => by rw [ho] at h'; injection h' with h'; subst h'; exact h.1, fun r h' => by rw [ho] at h'; cases h'⟩, h.2⟩
theorem rdrP_good {T : TypeId} {H H' : Hp} {g : Nat} {s s2 : RdS} {v : Value} {r : RecS} (ho : rdrO s = .inr r) (hs : (s.bytes 200).2 = s2) (h : (∃ p' n' c', v = .tuple #[r.val (.slice p' n' c'), .int .i64 0] ∧ BS H' (.slice p' n' c') r.blocks) ∧ (∃ p' c', RG T H' g p' c' s2) ∧ BSk H H' ∧ HExt [g] H H') : rdrP T H g s v H' := by
  subst hs
  exact ⟨⟨fun e' h' => (by rw [ho] at h'; cases h'), fun q h' => by rw [ho] at h'; injection h' with h'; subst h'; exact h.1⟩, h.2⟩
set_option maxHeartbeats 4000000 in
set_option maxRecDepth 100000 in
set_option linter.unusedSimpArgs false in
theorem g_rdread (H : Hp) (g : Nat) (p : Option Addr) (c : Nat) (s : RdS) (h : RG 81 H g p c s) : GCalls Try.prog 16 [.pointer (some ⟨g, 0, none⟩)] [g] H (rdrP 81 H g s) := by
  have hlt := Hp.at_lt h.hg
  have hle := bytes_len s 200
  have hB := fun H p c (h : RG 81 H g p c s) => g_bytes H g p c s 200 (by omega) h
  have hr : rdrO s = if (s.bytes 200).2.e ≠ 0 then .inl (s.bytes 200).2.e else match openL (s.bytes 200).1 with
    | none => .inl 4
    | some b => match parO b with
      | none => .inl 3
      | some r => .inr r := rfl
  generalize hq : s.bytes 200 = q at hB hle hr
  have hq2 : (s.bytes 200).2 = q.2 := by rw [hq]
  clear hq
  obtain ⟨B, s2⟩ := q
  simp only at hle hB hr hq2
  by_cases he : s2.e ≠ 0
  · rw [if_pos he] at hr
    refine GCalls.mono ?_ fun v H' h => rdrP_bad hr hq2 h
    clear hr hq2 hle
    refine GCalls.body tab_is Try.func16 rfl Try.results16 Try.ntmps16 (by simp) ?_ ?_
    · first | (intro _ h; cases h; done) | (simp; done) | (simp; omega) | (intro i hi; simp at hi; rcases hi with rfl | rfl <;> omega) | (intro i hi; simp at hi; rcases hi with rfl | rfl | rfl <;> omega)
    focus
      refine GWP.seq ?_
      refine GWP.region ?_
      focus
        refine GOps.w1 rfl rfl rfl rfl (gop_alloc' (id := ?_) ?_ tab_is rfl rfl ?_) ?_
        rotate_left 1
        · rfl
        · decide
      refine GOps.r rfl rfl rfl rfl (grd_assign rfl rfl) ?_
      refine GOps.nil ?_
      refine GWP.seq ?_
      refine GWP.region ?_
      refine GOps.r rfl rfl rfl rfl (grd_move rfl rfl) ?_
      focus
        refine GOps.w rfl rfl rfl rfl (gop_call rfl Try.call32 rfl ?_ (hB _ ?_ ?_ ?_)) ?_
        · simp [Ctx.may]; done
        rotate_left 2
        refine rg_ext (by assumption) ?_
        refine HExt.push ?_
        · exact HExt.refl _ _
      rintro _ Hxa9 ⟨⟨pa1, na2, ca3, rfl, ba4⟩, ⟨pa5, ca6, ra7⟩, ka8, xa9⟩
      have xa9l := HExt.len xa9; try simp at xa9l
      refine GOps.r rfl rfl rfl rfl (grd_assign rfl rfl) ?_
      refine GOps.nil ?_
      refine GWP.seq ?_
      refine GWP.seq ?_
      refine GWP.region ?_
      refine GOps.r rfl rfl rfl rfl (grd_move rfl rfl) ?_
      focus
        refine GOps.w1 rfl rfl rfl rfl (gop_call rfl Try.call33 rfl ?_ (g_failed _ _ ?_ ?_ ?_ ?_)) ?_
        · intro _ h; cases h; done
        rotate_left 3
        · assumption
      refine GOps.r rfl rfl rfl rfl (grd_assign rfl rfl) ?_
      refine GOps.nil ?_
      refine GWP.seq ?_
      refine GWP.region ?_
      refine GOps.r rfl rfl rfl rfl (grd_move rfl rfl) ?_
      refine GOps.r rfl rfl rfl rfl (grd_neq rfl rfl rfl) ?_
      refine GOps.nil ?_
      refine GWP.cond_t rfl ?_ ?_
      · exact decide_eq_true (by omega)
      refine GWP.seq ?_
      refine GWP.region ?_
      focus
        refine GOps.r rfl rfl rfl rfl (grd_build (cs := ?_) tab_is rfl rfl rfl ?_ rfl ?_) ?_
        rotate_left 1
        · decide
        · simp [gfill, gsets, Value.cells]; rfl
      refine GOps.r rfl rfl rfl rfl (grd_move rfl rfl) ?_
      focus
        refine GOps.s rfl rfl rfl (gop_storeC (b := ?_) (cs := ?_) tab_is rfl rfl ?_ rfl rfl ?_ ?_ ?_ ?_ ?_ ?_) ?_
        rotate_left 2
        · rfl
        · rfl
        refine (HExt.eq (by assumption) _ ?_ ?_).trans ?_
        · simp; done
        · simp; omega
        · exact Hp.at_push_eq
        · rfl
        · decide
        · exact .inr (by simp)
        · simp [splice, Value.cells]; rfl
      refine GOps.r rfl rfl rfl rfl (grd_assign rfl rfl) ?_
      refine GOps.nil ?_
      refine GWP.ret ?_
      focus
        refine ⟨_, (.two (gres_cellNK (b := ?_) (cs := ?_) rfl rfl rfl ?_ ?_ ?_) (.one rfl)), ?_⟩
        rotate_left 2
        refine Hp.at_put_eq ?_
        · omega
        · decide
        · simp [Value.cells]; rfl
      refine ⟨?_, ?_⟩
      · rfl
      refine ⟨?_, ?_⟩
      focus
        refine ⟨?_, ?_, ?_⟩
        rotate_left 2
        focus
          refine rg_ne (b := ?_) ?_ ?_ ?_ ?_
          rotate_left 1
          focus
            · assumption
          refine (HExt.eq (by assumption) _ ?_ ?_).trans ?_
          · simp; done
          · simp; omega
          · exact Hp.at_push_eq
          · omega
          · rfl
      refine ⟨?_, ?_⟩
      focus
        refine bsk_low ?_ ?_
        focus
          refine BSk.trans ?_ (by assumption)
          refine bsk_push ?_
          · exact BSk.refl _
        · omega
      refine HExt.put ?_ ?_
      refine HExt.tr ?_ (by assumption) ?_
      refine HExt.push ?_
      · exact HExt.refl _ _
      · simp; done
      · exact .inr (by omega)
  · rw [if_neg he] at hr
    have hO := fun H p n c hb hn => g_copen H p n c B hb hn
    cases ho : openL B with
    | none =>
      rw [ho] at hO hr
      refine GCalls.mono ?_ fun v H' h => rdrP_bad hr hq2 h
      clear hr hq2
      refine GCalls.body tab_is Try.func16 rfl Try.results16 Try.ntmps16 (by simp) ?_ ?_
      · first | (intro _ h; cases h; done) | (simp; done) | (simp; omega) | (intro i hi; simp at hi; rcases hi with rfl | rfl <;> omega) | (intro i hi; simp at hi; rcases hi with rfl | rfl | rfl <;> omega)
      focus
        refine GWP.seq ?_
        refine GWP.region ?_
        focus
          refine GOps.w1 rfl rfl rfl rfl (gop_alloc' (id := ?_) ?_ tab_is rfl rfl ?_) ?_
          rotate_left 1
          · rfl
          · decide
        refine GOps.r rfl rfl rfl rfl (grd_assign rfl rfl) ?_
        refine GOps.nil ?_
        refine GWP.seq ?_
        refine GWP.region ?_
        refine GOps.r rfl rfl rfl rfl (grd_move rfl rfl) ?_
        focus
          refine GOps.w rfl rfl rfl rfl (gop_call rfl Try.call32 rfl ?_ (hB _ ?_ ?_ ?_)) ?_
          · simp [Ctx.may]; done
          rotate_left 2
          refine rg_ext (by assumption) ?_
          refine HExt.push ?_
          · exact HExt.refl _ _
        rintro _ Hxb9 ⟨⟨pb1, nb2, cb3, rfl, bb4⟩, ⟨pb5, cb6, rb7⟩, kb8, xb9⟩
        have xb9l := HExt.len xb9; try simp at xb9l
        have bb4n := BS.len bb4
        refine GOps.r rfl rfl rfl rfl (grd_assign rfl rfl) ?_
        refine GOps.nil ?_
        refine GWP.seq ?_
        refine GWP.seq ?_
        refine GWP.region ?_
        refine GOps.r rfl rfl rfl rfl (grd_move rfl rfl) ?_
        focus
          refine GOps.w1 rfl rfl rfl rfl (gop_call rfl Try.call33 rfl ?_ (g_failed _ _ ?_ ?_ ?_ ?_)) ?_
          · intro _ h; cases h; done
          rotate_left 3
          · assumption
        refine GOps.r rfl rfl rfl rfl (grd_assign rfl rfl) ?_
        refine GOps.nil ?_
        refine GWP.seq ?_
        refine GWP.region ?_
        refine GOps.r rfl rfl rfl rfl (grd_move rfl rfl) ?_
        refine GOps.r rfl rfl rfl rfl (grd_neq rfl rfl rfl) ?_
        refine GOps.nil ?_
        refine GWP.cond_f rfl ?_ ?_
        · exact decide_eq_false (by omega)
        refine GWP.skip ?_
        refine GWP.seq ?_
        refine GWP.region ?_
        refine GOps.r rfl rfl rfl rfl (grd_move rfl rfl) ?_
        refine GOps.w rfl rfl rfl rfl (gop_call rfl Try.call23 rfl ?_ (hO _ _ _ _ ?_ ?_)) ?_
        · intro _ h; cases h; done
        · assumption
        · omega
        rintro _ Hxb14 ⟨⟨pb10, nb11, cb12, rfl, bb13⟩, xb14⟩
        have xb14l := HExt.len xb14; try simp at xb14l
        have bb13n := BS.len bb13
        refine GOps.r rfl rfl rfl rfl (grd_move rfl rfl) ?_
        focus
          refine GOps.r rfl rfl rfl rfl (grd_extract (v := ?_) rfl rfl ?_) ?_
          rotate_left 1
          · simp only [List.getElem?_toArray, List.getElem?_cons_zero, List.getElem?_cons_succ]; rfl
        focus
          refine GOps.r rfl rfl rfl rfl (grd_extract (v := ?_) rfl rfl ?_) ?_
          rotate_left 1
          · simp only [List.getElem?_toArray, List.getElem?_cons_zero, List.getElem?_cons_succ]; rfl
        refine GOps.r rfl rfl rfl rfl (grd_assign rfl rfl) ?_
        refine GOps.r rfl rfl rfl rfl (grd_assign rfl rfl) ?_
        refine GOps.nil ?_
        refine GWP.seq ?_
        refine GWP.seq ?_
        refine GWP.region ?_
        refine GOps.r rfl rfl rfl rfl (grd_move rfl rfl) ?_
        refine GOps.r rfl rfl rfl rfl (grd_not rfl rfl) ?_
        refine GOps.nil ?_
        refine GWP.cond_t rfl ?_ ?_
        · simp; done
        refine GWP.seq ?_
        refine GWP.region ?_
        focus
          refine GOps.r rfl rfl rfl rfl (grd_build (cs := ?_) tab_is rfl rfl rfl ?_ rfl ?_) ?_
          rotate_left 1
          · decide
          · simp [gfill, gsets, Value.cells]; rfl
        focus
          refine GOps.s rfl rfl rfl (gop_storeC (b := ?_) (cs := ?_) tab_is rfl rfl ?_ rfl rfl ?_ ?_ ?_ ?_ ?_ ?_) ?_
          rotate_left 2
          · rfl
          · rfl
          refine (HExt.eq (by assumption) _ ?_ ?_).trans ?_
          · omega
          · intro h; cases h; done
          refine (HExt.eq (by assumption) _ ?_ ?_).trans ?_
          · simp; done
          · simp; omega
          · exact Hp.at_push_eq
          · rfl
          · decide
          · exact .inr (by simp)
          · simp [splice, Value.cells]; rfl
        refine GOps.r rfl rfl rfl rfl (grd_assign rfl rfl) ?_
        refine GOps.nil ?_
        refine GWP.ret ?_
        focus
          refine ⟨_, (.two (gres_cellNK (b := ?_) (cs := ?_) rfl rfl rfl ?_ ?_ ?_) (.one rfl)), ?_⟩
          rotate_left 2
          refine Hp.at_put_eq ?_
          · omega
          · decide
          · simp [Value.cells]; rfl
        refine ⟨?_, ?_⟩
        · rfl
        refine ⟨?_, ?_⟩
        focus
          refine ⟨?_, ?_, ?_⟩
          rotate_left 2
          focus
            refine rg_ne (b := ?_) ?_ ?_ ?_ ?_
            rotate_left 1
            focus
              refine rg_ext (by assumption) ?_
              · assumption
            refine (HExt.eq (by assumption) _ ?_ ?_).trans ?_
            · omega
            · intro h; cases h; done
            refine (HExt.eq (by assumption) _ ?_ ?_).trans ?_
            · simp; done
            · simp; omega
            · exact Hp.at_push_eq
            · omega
            · rfl
        refine ⟨?_, ?_⟩
        focus
          refine bsk_low ?_ ?_
          focus
            refine bsk_tail ?_ (by assumption)
            refine BSk.trans ?_ (by assumption)
            refine bsk_push ?_
            · exact BSk.refl _
          · omega
        refine HExt.put ?_ ?_
        refine HExt.tr ?_ (by assumption) ?_
        refine HExt.tr ?_ (by assumption) ?_
        refine HExt.push ?_
        · exact HExt.refl _ _
        · simp; done
        · intro _ h; cases h; done
        · exact .inr (by omega)
    | some D =>
      rw [ho] at hO hr
      have hD := openL_len ho
      cases hp : parO D with
      | none =>
        have hP : ∀ H p n c, BS H (.slice p n c) D → n ≤ 35184372088832 → GCalls Try.prog 34 [.slice p n c] [] H fun v H' => v = .tuple #[recV 0 0 0 0 0 (.slice none 0 0) 0 0 0, .int .i64 3] ∧ HExt [] H H' := fun H p n c hb hn => (g_parse H p n c D hb hn).mono fun v H' h => ⟨h.1.1 hp, h.2⟩
        simp only [hp] at hr
        refine GCalls.mono ?_ fun v H' h => rdrP_bad hr hq2 h
        clear hr hq2
        refine GCalls.body tab_is Try.func16 rfl Try.results16 Try.ntmps16 (by simp) ?_ ?_
        · first | (intro _ h; cases h; done) | (simp; done) | (simp; omega) | (intro i hi; simp at hi; rcases hi with rfl | rfl <;> omega) | (intro i hi; simp at hi; rcases hi with rfl | rfl | rfl <;> omega)
        focus
          refine GWP.seq ?_
          refine GWP.region ?_
          focus
            refine GOps.w1 rfl rfl rfl rfl (gop_alloc' (id := ?_) ?_ tab_is rfl rfl ?_) ?_
            rotate_left 1
            · rfl
            · decide
          refine GOps.r rfl rfl rfl rfl (grd_assign rfl rfl) ?_
          refine GOps.nil ?_
          refine GWP.seq ?_
          refine GWP.region ?_
          refine GOps.r rfl rfl rfl rfl (grd_move rfl rfl) ?_
          focus
            refine GOps.w rfl rfl rfl rfl (gop_call rfl Try.call32 rfl ?_ (hB _ ?_ ?_ ?_)) ?_
            · simp [Ctx.may]; done
            rotate_left 2
            refine rg_ext (by assumption) ?_
            refine HExt.push ?_
            · exact HExt.refl _ _
          rintro _ Hxd9 ⟨⟨pd1, nd2, cd3, rfl, bd4⟩, ⟨pd5, cd6, rd7⟩, kd8, xd9⟩
          have xd9l := HExt.len xd9; try simp at xd9l
          have bd4n := BS.len bd4; try simp only [Option.getD_some] at bd4n
          refine GOps.r rfl rfl rfl rfl (grd_assign rfl rfl) ?_
          refine GOps.nil ?_
          refine GWP.seq ?_
          refine GWP.seq ?_
          refine GWP.region ?_
          refine GOps.r rfl rfl rfl rfl (grd_move rfl rfl) ?_
          focus
            refine GOps.w1 rfl rfl rfl rfl (gop_call rfl Try.call33 rfl ?_ (g_failed _ _ ?_ ?_ ?_ ?_)) ?_
            · intro _ h; cases h; done
            rotate_left 3
            · assumption
          refine GOps.r rfl rfl rfl rfl (grd_assign rfl rfl) ?_
          refine GOps.nil ?_
          refine GWP.seq ?_
          refine GWP.region ?_
          refine GOps.r rfl rfl rfl rfl (grd_move rfl rfl) ?_
          refine GOps.r rfl rfl rfl rfl (grd_neq rfl rfl rfl) ?_
          refine GOps.nil ?_
          refine GWP.cond_f rfl ?_ ?_
          · exact decide_eq_false (by omega)
          refine GWP.skip ?_
          refine GWP.seq ?_
          refine GWP.region ?_
          refine GOps.r rfl rfl rfl rfl (grd_move rfl rfl) ?_
          refine GOps.w rfl rfl rfl rfl (gop_call rfl Try.call23 rfl ?_ (hO _ _ _ _ ?_ ?_)) ?_
          · intro _ h; cases h; done
          · assumption
          · omega
          rintro _ Hxd14 ⟨⟨pd10, nd11, cd12, rfl, bd13⟩, xd14⟩
          have xd14l := HExt.len xd14; try simp at xd14l
          have bd13n := BS.len bd13; try simp only [Option.getD_some] at bd13n
          refine GOps.r rfl rfl rfl rfl (grd_move rfl rfl) ?_
          focus
            refine GOps.r rfl rfl rfl rfl (grd_extract (v := ?_) rfl rfl ?_) ?_
            rotate_left 1
            · simp only [List.getElem?_toArray, List.getElem?_cons_zero, List.getElem?_cons_succ]; rfl
          focus
            refine GOps.r rfl rfl rfl rfl (grd_extract (v := ?_) rfl rfl ?_) ?_
            rotate_left 1
            · simp only [List.getElem?_toArray, List.getElem?_cons_zero, List.getElem?_cons_succ]; rfl
          refine GOps.r rfl rfl rfl rfl (grd_assign rfl rfl) ?_
          refine GOps.r rfl rfl rfl rfl (grd_assign rfl rfl) ?_
          refine GOps.nil ?_
          refine GWP.seq ?_
          refine GWP.seq ?_
          refine GWP.region ?_
          refine GOps.r rfl rfl rfl rfl (grd_move rfl rfl) ?_
          refine GOps.r rfl rfl rfl rfl (grd_not rfl rfl) ?_
          refine GOps.nil ?_
          refine GWP.cond_f rfl ?_ ?_
          · simp; done
          refine GWP.skip ?_
          refine GWP.seq ?_
          refine GWP.region ?_
          refine GOps.r rfl rfl rfl rfl (grd_move rfl rfl) ?_
          refine GOps.w rfl rfl rfl rfl (gop_call rfl Try.call34 rfl ?_ (hP _ _ _ _ ?_ ?_)) ?_
          · intro _ h; cases h; done
          · assumption
          · omega
          rintro _ Hxd15 ⟨rfl, xd15⟩
          have xd15l := HExt.len xd15; try simp at xd15l
          focus
            refine GOps.r rfl rfl rfl rfl (grd_extract (v := ?_) rfl rfl ?_) ?_
            rotate_left 1
            · simp only [List.getElem?_toArray, List.getElem?_cons_zero, List.getElem?_cons_succ]; rfl
          focus
            refine GOps.r rfl rfl rfl rfl (grd_extract (v := ?_) rfl rfl ?_) ?_
            rotate_left 1
            · simp only [List.getElem?_toArray, List.getElem?_cons_zero, List.getElem?_cons_succ]; rfl
          focus
            refine GOps.s rfl rfl rfl (gop_storeC (b := ?_) (cs := ?_) tab_is rfl rfl ?_ rfl rfl ?_ ?_ ?_ ?_ ?_ ?_) ?_
            rotate_left 2
            · rfl
            · rfl
            refine (HExt.eq (by assumption) _ ?_ ?_).trans ?_
            · omega
            · intro h; cases h; done
            refine (HExt.eq (by assumption) _ ?_ ?_).trans ?_
            · omega
            · intro h; cases h; done
            refine (HExt.eq (by assumption) _ ?_ ?_).trans ?_
            · simp; done
            · simp; omega
            · exact Hp.at_push_eq
            · rfl
            · decide
            · exact .inr (by simp)
            · simp [splice, Value.cells]; rfl
          refine GOps.r rfl rfl rfl rfl (grd_assign rfl rfl) ?_
          refine GOps.nil ?_
          refine GWP.ret ?_
          focus
            refine ⟨_, (.two (gres_cellNK (b := ?_) (cs := ?_) rfl rfl rfl ?_ ?_ ?_) (.one rfl)), ?_⟩
            rotate_left 2
            refine Hp.at_put_eq ?_
            · omega
            · decide
            · simp [Value.cells]; rfl
          refine ⟨?_, ?_⟩
          · rfl
          refine ⟨?_, ?_⟩
          focus
            refine ⟨?_, ?_, ?_⟩
            rotate_left 2
            focus
              refine rg_ne (b := ?_) ?_ ?_ ?_ ?_
              rotate_left 1
              focus
                refine rg_ext (by assumption) ?_
                refine HExt.tr ?_ (by assumption) ?_
                · assumption
                · intro _ h; cases h; done
              refine (HExt.eq (by assumption) _ ?_ ?_).trans ?_
              · omega
              · intro h; cases h; done
              refine (HExt.eq (by assumption) _ ?_ ?_).trans ?_
              · omega
              · intro h; cases h; done
              refine (HExt.eq (by assumption) _ ?_ ?_).trans ?_
              · simp; done
              · simp; omega
              · exact Hp.at_push_eq
              · omega
              · rfl
          refine ⟨?_, ?_⟩
          focus
            refine bsk_low ?_ ?_
            focus
              refine bsk_tail ?_ (by assumption)
              refine bsk_tail ?_ (by assumption)
              refine BSk.trans ?_ (by assumption)
              refine bsk_push ?_
              · exact BSk.refl _
            · omega
          refine HExt.put ?_ ?_
          refine HExt.tr ?_ (by assumption) ?_
          refine HExt.tr ?_ (by assumption) ?_
          refine HExt.tr ?_ (by assumption) ?_
          refine HExt.push ?_
          · exact HExt.refl _ _
          · simp; done
          · intro _ h; cases h; done
          · intro _ h; cases h; done
          · exact .inr (by omega)
      | some r =>
        have hP : ∀ H p n c, BS H (.slice p n c) D → n ≤ 35184372088832 → GCalls Try.prog 34 [.slice p n c] [] H fun v H' => (∃ p' n' c', v = .tuple #[.agg #[.int .u8 r.kind, .int .i64 r.id, .int .i64 r.base, .int .i64 r.fr, .int .i64 r.til, .slice p' n' c', .int .i64 r.count, .int .u64 r.len, .int .u64 r.sum], .int .i64 0] ∧ BS H' (.slice p' n' c') r.blocks) ∧ HExt [] H H' := fun H p n c hb hn => (g_parse H p n c D hb hn).mono fun v H' h => ⟨h.1.2 r hp, h.2⟩
        simp only [hp] at hr
        refine GCalls.mono ?_ fun v H' h => rdrP_good hr hq2 h
        clear hr hq2
        refine GCalls.body tab_is Try.func16 rfl Try.results16 Try.ntmps16 (by simp) ?_ ?_
        · first | (intro _ h; cases h; done) | (simp; done) | (simp; omega) | (intro i hi; simp at hi; rcases hi with rfl | rfl <;> omega) | (intro i hi; simp at hi; rcases hi with rfl | rfl | rfl <;> omega)
        focus
          refine GWP.seq ?_
          refine GWP.region ?_
          focus
            refine GOps.w1 rfl rfl rfl rfl (gop_alloc' (id := ?_) ?_ tab_is rfl rfl ?_) ?_
            rotate_left 1
            · rfl
            · decide
          refine GOps.r rfl rfl rfl rfl (grd_assign rfl rfl) ?_
          refine GOps.nil ?_
          refine GWP.seq ?_
          refine GWP.region ?_
          refine GOps.r rfl rfl rfl rfl (grd_move rfl rfl) ?_
          focus
            refine GOps.w rfl rfl rfl rfl (gop_call rfl Try.call32 rfl ?_ (hB _ ?_ ?_ ?_)) ?_
            · simp [Ctx.may]; done
            rotate_left 2
            refine rg_ext (by assumption) ?_
            refine HExt.push ?_
            · exact HExt.refl _ _
          rintro _ Hxe9 ⟨⟨pe1, ne2, ce3, rfl, be4⟩, ⟨pe5, ce6, re7⟩, ke8, xe9⟩
          have xe9l := HExt.len xe9; try simp at xe9l
          have be4n := BS.len be4; try simp only [Option.getD_some] at be4n
          refine GOps.r rfl rfl rfl rfl (grd_assign rfl rfl) ?_
          refine GOps.nil ?_
          refine GWP.seq ?_
          refine GWP.seq ?_
          refine GWP.region ?_
          refine GOps.r rfl rfl rfl rfl (grd_move rfl rfl) ?_
          focus
            refine GOps.w1 rfl rfl rfl rfl (gop_call rfl Try.call33 rfl ?_ (g_failed _ _ ?_ ?_ ?_ ?_)) ?_
            · intro _ h; cases h; done
            rotate_left 3
            · assumption
          refine GOps.r rfl rfl rfl rfl (grd_assign rfl rfl) ?_
          refine GOps.nil ?_
          refine GWP.seq ?_
          refine GWP.region ?_
          refine GOps.r rfl rfl rfl rfl (grd_move rfl rfl) ?_
          refine GOps.r rfl rfl rfl rfl (grd_neq rfl rfl rfl) ?_
          refine GOps.nil ?_
          refine GWP.cond_f rfl ?_ ?_
          · exact decide_eq_false (by omega)
          refine GWP.skip ?_
          refine GWP.seq ?_
          refine GWP.region ?_
          refine GOps.r rfl rfl rfl rfl (grd_move rfl rfl) ?_
          refine GOps.w rfl rfl rfl rfl (gop_call rfl Try.call23 rfl ?_ (hO _ _ _ _ ?_ ?_)) ?_
          · intro _ h; cases h; done
          · assumption
          · omega
          rintro _ Hxe14 ⟨⟨pe10, ne11, ce12, rfl, be13⟩, xe14⟩
          have xe14l := HExt.len xe14; try simp at xe14l
          have be13n := BS.len be13; try simp only [Option.getD_some] at be13n
          refine GOps.r rfl rfl rfl rfl (grd_move rfl rfl) ?_
          focus
            refine GOps.r rfl rfl rfl rfl (grd_extract (v := ?_) rfl rfl ?_) ?_
            rotate_left 1
            · simp only [List.getElem?_toArray, List.getElem?_cons_zero, List.getElem?_cons_succ]; rfl
          focus
            refine GOps.r rfl rfl rfl rfl (grd_extract (v := ?_) rfl rfl ?_) ?_
            rotate_left 1
            · simp only [List.getElem?_toArray, List.getElem?_cons_zero, List.getElem?_cons_succ]; rfl
          refine GOps.r rfl rfl rfl rfl (grd_assign rfl rfl) ?_
          refine GOps.r rfl rfl rfl rfl (grd_assign rfl rfl) ?_
          refine GOps.nil ?_
          refine GWP.seq ?_
          refine GWP.seq ?_
          refine GWP.region ?_
          refine GOps.r rfl rfl rfl rfl (grd_move rfl rfl) ?_
          refine GOps.r rfl rfl rfl rfl (grd_not rfl rfl) ?_
          refine GOps.nil ?_
          refine GWP.cond_f rfl ?_ ?_
          · simp; done
          refine GWP.skip ?_
          refine GWP.seq ?_
          refine GWP.region ?_
          refine GOps.r rfl rfl rfl rfl (grd_move rfl rfl) ?_
          refine GOps.w rfl rfl rfl rfl (gop_call rfl Try.call34 rfl ?_ (hP _ _ _ _ ?_ ?_)) ?_
          · intro _ h; cases h; done
          · assumption
          · omega
          rintro _ Hxe19 ⟨⟨pe15, ne16, ce17, rfl, be18⟩, xe19⟩
          have xe19l := HExt.len xe19; try simp at xe19l
          have be18n := BS.len be18; try simp only [Option.getD_some] at be18n
          focus
            refine GOps.r rfl rfl rfl rfl (grd_extract (v := ?_) rfl rfl ?_) ?_
            rotate_left 1
            · simp only [List.getElem?_toArray, List.getElem?_cons_zero, List.getElem?_cons_succ]; rfl
          focus
            refine GOps.r rfl rfl rfl rfl (grd_extract (v := ?_) rfl rfl ?_) ?_
            rotate_left 1
            · simp only [List.getElem?_toArray, List.getElem?_cons_zero, List.getElem?_cons_succ]; rfl
          focus
            refine GOps.s rfl rfl rfl (gop_storeC (b := ?_) (cs := ?_) tab_is rfl rfl ?_ rfl rfl ?_ ?_ ?_ ?_ ?_ ?_) ?_
            rotate_left 2
            · rfl
            · rfl
            refine (HExt.eq (by assumption) _ ?_ ?_).trans ?_
            · omega
            · intro h; cases h; done
            refine (HExt.eq (by assumption) _ ?_ ?_).trans ?_
            · omega
            · intro h; cases h; done
            refine (HExt.eq (by assumption) _ ?_ ?_).trans ?_
            · simp; done
            · simp; omega
            · exact Hp.at_push_eq
            · rfl
            · exact Nat.le_of_ble_eq_true rfl
            · exact .inr (by simp)
            · simp [splice, Value.cells]; rfl
          refine GOps.r rfl rfl rfl rfl (grd_assign rfl rfl) ?_
          refine GOps.nil ?_
          refine GWP.ret ?_
          focus
            refine ⟨_, (.two (gres_cellNK (b := ?_) (cs := ?_) rfl rfl rfl ?_ ?_ ?_) (.one rfl)), ?_⟩
            rotate_left 2
            refine Hp.at_put_eq ?_
            · omega
            · exact Nat.le_of_ble_eq_true rfl
            · simp [Value.cells]; rfl
          refine ⟨?_, ?_⟩
          focus
            refine ⟨_, _, _, rfl, ?_⟩
            refine bs_put (b := ?_) ?_ ?_ ?_
            rotate_left 3
            focus
              · assumption
            rotate_left 1
            refine (HExt.eq (by assumption) _ ?_ ?_).trans ?_
            · omega
            · intro h; cases h; done
            refine (HExt.eq (by assumption) _ ?_ ?_).trans ?_
            · omega
            · intro h; cases h; done
            refine (HExt.eq (by assumption) _ ?_ ?_).trans ?_
            · simp; done
            · simp; omega
            · exact Hp.at_push_eq
            · rfl
          refine ⟨?_, ?_⟩
          focus
            refine ⟨?_, ?_, ?_⟩
            rotate_left 2
            focus
              refine rg_ne (b := ?_) ?_ ?_ ?_ ?_
              rotate_left 1
              focus
                refine rg_ext (by assumption) ?_
                refine HExt.tr ?_ (by assumption) ?_
                · assumption
                · intro _ h; cases h; done
              refine (HExt.eq (by assumption) _ ?_ ?_).trans ?_
              · omega
              · intro h; cases h; done
              refine (HExt.eq (by assumption) _ ?_ ?_).trans ?_
              · omega
              · intro h; cases h; done
              refine (HExt.eq (by assumption) _ ?_ ?_).trans ?_
              · simp; done
              · simp; omega
              · exact Hp.at_push_eq
              · omega
              · rfl
          refine ⟨?_, ?_⟩
          focus
            refine bsk_low ?_ ?_
            focus
              refine bsk_tail ?_ (by assumption)
              refine bsk_tail ?_ (by assumption)
              refine BSk.trans ?_ (by assumption)
              refine bsk_push ?_
              · exact BSk.refl _
            · omega
          refine HExt.put ?_ ?_
          refine HExt.tr ?_ (by assumption) ?_
          refine HExt.tr ?_ (by assumption) ?_
          refine HExt.tr ?_ (by assumption) ?_
          refine HExt.push ?_
          · exact HExt.refl _ _
          · simp; done
          · intro _ h; cases h; done
          · intro _ h; cases h; done
          · exact .inr (by omega)
end Go.Proofs.Ytjlimdiimdihfaa

/- Records as the document has them. -/
namespace Go.Proofs.Ytjlimdiimdihfaa
open Go.RowKit

/-- A record's cells, its blocks as a string. -/
def recT (k id base fr to_ : Int) (L : List UInt8) (cnt len sum : Int) : Value := .agg #[.int .u8 k, .int .i64 id, .int .i64 base, .int .i64 fr, .int .i64 to_, .string ⟨L.toArray⟩, .int .i64 cnt, .int .u64 len, .int .u64 sum]
def RecS.valT (r : RecS) : Value := recT r.kind r.id r.base r.fr r.til r.blocks r.count r.len r.sum
theorem vb_iff {p q : Prop} [Decidable p] [Decidable q] (h : p ↔ q) : Value.bool (decide p) = .bool (decide q) := congrArg Value.bool (by by_cases hq : q <;> simp [h, hq])
theorem vb_t {p : Prop} [Decidable p] (h : p) : Value.bool (decide p) = .bool true := congrArg Value.bool (decide_eq_true h)
theorem vb_f {p : Prop} [Decidable p] (h : ¬ p) : Value.bool false = .bool (decide p) := congrArg Value.bool (decide_eq_false h).symm
theorem fin_ne2 (s : RdS) : s.fin ≠ 0 ↔ (s.e ≠ 0 ∨ 0 < s.l.length) := by
  unfold RdS.fin
  split
  · simp [*]
  · split
    · simp [*]
    · simp_all
/-- Bytes, their place laid open. -/
theorem bs_open {H : Hp} {p : Option Addr} {n c : Nat} {L : List UInt8} (h : BS H (.slice p n c) L) (h0 : 0 < L.length) : ∃ j off t rw cs, p = some ⟨j, off, none⟩ ∧ H.at j = some ⟨t, 1, cs, rw⟩ ∧ (cs.drop off).take L.length = vb L ∧ n = L.length ∧ off + L.length ≤ cs.length ∧ allU8 cs = true := by
  cases h with
  | none => simp at h0
  | some hb hs hl ho hu =>
    subst hl
    exact ⟨_, _, _, _, _, rfl, hb, hs, rfl, ho, hu⟩
end Go.Proofs.Ytjlimdiimdihfaa

/- A record's bytes, and what is read of them: plain. -/
namespace Go.Proofs.Ytjlimdiimdihfaa
open Go.RowKit

/-- A number as one of 64 bits. -/
def w64 (z : Int) : Nat := (z % 18446744073709551616).toNat
theorem w64_of {z : Int} (h : 0 ≤ z) (h2 : z < 18446744073709551616) : ((w64 z : Nat) : Int) = z := by unfold w64; omega
theorem w64_lt (z : Int) : w64 z < 18446744073709551616 := by unfold w64; omega
theorem wrap_w64 (z : Int) : IntKind.u64.wrap z = ((w64 z : Nat) : Int) := by
  rw [IntKind.wrap_u64, w64]
  omega
/-- May a record be? -/
def rightO (r : RecS) : Prop :=
  (r.kind = 1 ∧ 0 ≤ r.id ∧ r.id ≤ 1099511627776 ∧ 0 ≤ r.base ∧ r.base ≤ 1099511627776 ∧ r.fr = 0 ∧ r.til = 0 ∧ r.blocks = [] ∧ r.count = 0 ∧ r.len = 0 ∧ r.sum = 0) ∨
  (r.kind = 2 ∧ r.id = 0 ∧ r.base = 0 ∧ 0 ≤ r.fr ∧ r.fr < 256 ∧ 1 ≤ r.til - r.fr ∧ r.til - r.fr ≤ 4 ∧ r.til ≤ 256 ∧ (r.blocks.length : Int) = 32 * (r.til - r.fr) ∧ r.count = 0 ∧ r.len = 0 ∧ r.sum = 0) ∨
  (r.kind = 3 ∧ r.id = 0 ∧ r.base = 0 ∧ 0 ≤ r.fr ∧ r.fr < r.til ∧ r.til ≤ 256 ∧ r.blocks = [] ∧ r.count = 0 ∧ r.len = 0 ∧ r.sum = 0) ∨
  (r.kind = 4 ∧ r.id = 0 ∧ r.base = 0 ∧ r.fr = 0 ∧ r.til = 0 ∧ r.blocks = [] ∧ 0 ≤ r.count ∧ r.count ≤ 1099511627776 ∧ 0 ≤ r.len ∧ r.len ≤ 1099511627776 ∧ 0 ≤ r.sum ∧ r.sum < 2305843009213693951)
/-- A record's bytes, without their sum. -/
def bodyL (k : UInt8) (r : RecS) : List UInt8 := k :: (if k.toNat = 1 then encs [w64 r.id, w64 r.base] else if k.toNat = 2 then enc (w64 r.fr) ++ r.blocks else if k.toNat = 3 then encs [w64 r.fr, w64 r.til] else encs [w64 r.count, w64 r.len, w64 r.sum])
def textL (x : List UInt8) : List UInt8 := enc x.length ++ x
theorem parO_right {L : List UInt8} {r : RecS} (h : parO L = some r) : rightO r := by
  match L with
  | [] => cases h
  | k :: M =>
    unfold parO at h
    simp only at h
    unfold rightO
    split at h
    · have h1 := number_le' ⟨M, 0⟩ top40
      have h2 := number_le' (RdS.number ⟨M, 0⟩ top40).2 top40
      split at h
      · cases h
      · injection h with h
        subst h
        unfold top40 at *
        refine .inl ⟨rfl, ?_, ?_, ?_, ?_, rfl, rfl, rfl, rfl, rfl, rfl⟩ <;> simp only <;> omega
    · split at h
      · split at h
        · cases h
        · split at h
          · rename_i h1 h2
            injection h with h
            subst h
            refine .inr (.inl ⟨rfl, rfl, rfl, ?_, ?_, ?_, ?_, ?_, ?_, rfl, rfl, rfl⟩) <;> simp only <;> omega
          · cases h
      · split at h
        · have h1 := number_le' ⟨M, 0⟩ 255
          have h2 := number_le' (RdS.number ⟨M, 0⟩ 255).2 256
          split at h
          · cases h
          · rename_i hc
            injection h with h
            subst h
            have hf : (RdS.number (RdS.number ⟨M, 0⟩ 255).2 256).2.fin = 0 := Classical.byContradiction fun hf => hc (.inr hf)
            have he : (RdS.number (RdS.number ⟨M, 0⟩ 255).2 256).2.e = 0 := Classical.byContradiction fun he => (fin_ne2 _).2 (.inl he) hf
            have hlt : (RdS.number ⟨M, 0⟩ 255).1 < (RdS.number (RdS.number ⟨M, 0⟩ 255).2 256).1 := Nat.lt_of_not_le fun hle => hc (.inl ⟨he, hle⟩)
            refine .inr (.inr (.inl ⟨rfl, rfl, rfl, ?_, ?_, ?_, rfl, rfl, rfl, rfl⟩)) <;> simp only <;> omega
        · split at h
          · have h1 := number_le' ⟨M, 0⟩ top40
            have h2 := number_le' (RdS.number ⟨M, 0⟩ top40).2 top40
            have h3 := number_le' (RdS.number (RdS.number ⟨M, 0⟩ top40).2 top40).2 2305843009213693950
            split at h
            · cases h
            · injection h with h
              subst h
              unfold top40 at *
              refine .inr (.inr (.inr ⟨rfl, rfl, rfl, rfl, rfl, rfl, ?_, ?_, ?_, ?_, ?_, ?_⟩)) <;> simp only <;> omega
          · cases h
theorem rdrO_right {s : RdS} {r : RecS} (h : rdrO s = .inr r) : rightO r := by
  unfold rdrO at h
  split at h
  · cases h
  · split at h
    · cases h
    · split at h
      · cases h
      · rename_i hp
        injection h with h
        subst h
        exact parO_right hp
theorem nextL_enc2 (d : Nat) : ∀ (i a N : Nat) (r : List UInt8), N < 128 ^ (d + 1) → i + d ≤ 9 → (i + d = 9 → N < 2 * 128 ^ d) → (0 < i → 0 < N) → nextL i a (enc N ++ r) = (a + N * 128 ^ i, i + (enc N).length, 0) := by
  induction d with
  | zero =>
    intro i a N r hN hi h9 h0
    have hN' : N < 128 := by simpa using hN
    have hb : (UInt8.ofNat N).toNat = N := by simp; omega
    rw [enc_lt hN', List.singleton_append, nextL_cons, hb, if_neg, if_pos hN', Nat.mod_eq_of_lt hN']
    · rfl
    · intro h
      rcases h with ⟨h1, h2⟩ | ⟨h1, h2⟩
      · have := h9 (by omega)
        simp at this
        omega
      · have := h0 h1
        omega
  | succ d ih =>
    intro i a N r hN hi h9 h0
    by_cases hN' : N < 128
    · have hb : (UInt8.ofNat N).toNat = N := by simp; omega
      rw [enc_lt hN', List.singleton_append, nextL_cons, hb, if_neg, if_pos hN', Nat.mod_eq_of_lt hN']
      · rfl
      · intro h
        rcases h with ⟨h1, h2⟩ | ⟨h1, h2⟩
        · omega
        · have := h0 h1
          omega
    · have hb : (UInt8.ofNat (N % 128 + 128)).toNat = N % 128 + 128 := by simp; omega
      have hp : (128 : Nat) ^ (d + 1 + 1) = 128 * 128 ^ (d + 1) := by rw [Nat.pow_succ, Nat.mul_comm]
      have hp2 : (128 : Nat) ^ (d + 1) = 128 * 128 ^ d := by rw [Nat.pow_succ, Nat.mul_comm]
      have hrec := ih (i + 1) (a + N % 128 * 128 ^ i) (N / 128) r (by omega) (by omega) (fun h => by have := h9 (by omega); omega) (fun _ => by omega)
      rw [enc_ge hN', List.cons_append, nextL_cons, hb, if_neg (by omega), if_neg (by omega), show (N % 128 + 128) % 128 = N % 128 from by omega, hrec]
      refine Prod.ext ?_ (Prod.ext ?_ rfl)
      · show a + N % 128 * 128 ^ i + N / 128 * 128 ^ (i + 1) = a + N * 128 ^ i
        have e : N * 128 ^ i = N % 128 * 128 ^ i + N / 128 * 128 ^ (i + 1) := by
          rw [Nat.pow_succ, Nat.mul_comm (128 ^ i) 128, ← Nat.mul_assoc, ← Nat.add_mul]
          congr 1
          omega
        omega
      · show i + 1 + (enc (N / 128)).length = i + (UInt8.ofNat (N % 128 + 128) :: enc (N / 128)).length
        simp only [List.length_cons]
        omega
theorem next_enc2 (N : Nat) (r : List UInt8) (h : N < 18446744073709551616) : next (enc N ++ r) = (N, (enc N).length, 0) := by
  have h1 : N < 128 ^ (9 + 1) := by rw [Nat.pow_succ, p128_9]; omega
  have := nextL_enc2 9 0 0 N r h1 (by omega) (fun _ => by rw [p128_9]; omega) (fun h => absurd h (by omega))
  simpa [next] using this
theorem number_enc2 (N most : Nat) (r : List UInt8) (h : N < 18446744073709551616) (hm : N ≤ most) : RdS.number ⟨enc N ++ r, 0⟩ most = (N, ⟨r, 0⟩) := by
  have hn := next_enc2 N r h
  unfold RdS.number
  simp only [hn]
  rw [if_neg (by simp), if_neg (by simp), if_neg (by omega)]
  simp
theorem bytes_text2 (x r : List UInt8) (most : Nat) (hm : x.length ≤ most) (h : x.length < 18446744073709551616) : RdS.bytes ⟨textL x ++ r, 0⟩ (most : Int) = (x, ⟨r, 0⟩) := by
  have hn : RdS.number ⟨textL x ++ r, 0⟩ (max (most : Int) 0).toNat = (x.length, ⟨x ++ r, 0⟩) := by
    have e : (max (most : Int) 0).toNat = most := by omega
    rw [e, textL, List.append_assoc]
    exact number_enc2 _ _ _ h hm
  unfold RdS.bytes
  simp only [hn]
  rw [if_neg (by simp), if_neg (by simp)]
  simp
theorem openL_seal (b : List UInt8) : openL (sealL b) = some b := by
  have hl := sealL_length b
  have ht : (sealL b).take ((sealL b).length - 4) = b := by
    rw [hl, show b.length + 4 - 4 = b.length by omega]
    unfold sealL
    exact List.take_left
  unfold openL
  rw [ht, if_pos ⟨by omega, rfl⟩]
theorem parO_body {k : UInt8} {r : RecS} (hk : r.kind = (k.toNat : Int)) (h : rightO r) : parO (bodyL k r) = some r := by
  obtain ⟨kd, id, base, fr, til, blocks, cnt, len, sum⟩ := r
  unfold rightO at h
  simp only at hk h
  unfold bodyL
  simp only
  have e1 : k.toNat = 1 → ∀ a b c d : List UInt8, (if k.toNat = 1 then a else if k.toNat = 2 then b else if k.toNat = 3 then c else d) = a := fun h a b c d => if_pos h
  have e2 : k.toNat = 2 → ∀ a b c d : List UInt8, (if k.toNat = 1 then a else if k.toNat = 2 then b else if k.toNat = 3 then c else d) = b := fun h a b c d => by rw [if_neg (by omega), if_pos h]
  have e3 : k.toNat = 3 → ∀ a b c d : List UInt8, (if k.toNat = 1 then a else if k.toNat = 2 then b else if k.toNat = 3 then c else d) = c := fun h a b c d => by rw [if_neg (by omega), if_neg (by omega), if_pos h]
  have e4 : k.toNat = 4 → ∀ a b c d : List UInt8, (if k.toNat = 1 then a else if k.toNat = 2 then b else if k.toNat = 3 then c else d) = d := fun h a b c d => by rw [if_neg (by omega), if_neg (by omega), if_neg (by omega)]
  rcases h with ⟨h0, h1, h2, h3, h4, rfl, rfl, rfl, rfl, rfl, rfl⟩ | ⟨h0, rfl, rfl, h1, h2, h3, h4, h5, h6, rfl, rfl, rfl⟩ | ⟨h0, rfl, rfl, h1, h2, h3, rfl, rfl, rfl, rfl⟩ | ⟨h0, rfl, rfl, rfl, rfl, rfl, h1, h2, h3, h4, h5, h6⟩
  · have hk1 : k.toNat = 1 := by omega
    rw [e1 hk1]
    clear e1 e2 e3 e4
    unfold parO
    simp only
    have e1 := w64_of h1 (by omega)
    have e2 := w64_of h3 (by omega)
    rw [if_pos hk1, encs_cons, encs_cons, encs_nil, List.append_nil, number_enc2 _ _ _ (w64_lt _) (by unfold top40; omega)]
    simp only
    have := number_enc2 (w64 base) top40 [] (w64_lt _) (by unfold top40; omega)
    rw [List.append_nil] at this
    rw [this]
    simp only [RdS.fin]
    rw [if_neg (by simp)]
    simp only [e1, e2, h0]
  · have hk2 : k.toNat = 2 := by omega
    rw [e2 hk2]
    clear e1 e2 e3 e4
    unfold parO
    simp only
    have e1 := w64_of h1 (by omega)
    rw [if_neg (by omega), if_pos hk2, next_enc2 _ _ (w64_lt _)]
    simp only
    rw [if_neg (by omega), List.drop_left, if_pos (by omega)]
    have e2 : ((w64 fr + blocks.length / 32 : Nat) : Int) = til := by omega
    rw [e2, e1, h0]
  · have hk3 : k.toNat = 3 := by omega
    rw [e3 hk3]
    clear e1 e2 e3 e4
    unfold parO
    simp only
    have e1 := w64_of h1 (by omega)
    have e2 := w64_of (show 0 ≤ til by omega) (by omega)
    rw [if_neg (by omega), if_neg (by omega), if_pos hk3, encs_cons, encs_cons, encs_nil, List.append_nil, number_enc2 _ _ _ (w64_lt _) (by omega)]
    simp only
    have := number_enc2 (w64 til) 256 [] (w64_lt _) (by omega)
    rw [List.append_nil] at this
    rw [this]
    simp only [RdS.fin]
    rw [if_neg (by simp; omega)]
    simp only [e1, e2, h0]
  · have hk4 : k.toNat = 4 := by omega
    rw [e4 hk4]
    clear e1 e2 e3 e4
    unfold parO
    simp only
    have e1 := w64_of h1 (by omega)
    have e2 := w64_of h3 (by omega)
    have e3 := w64_of h5 (by omega)
    rw [if_neg (by omega), if_neg (by omega), if_neg (by omega), if_pos hk4, encs_cons, encs_cons, encs_cons, encs_nil, List.append_nil, number_enc2 _ _ _ (w64_lt _) (by unfold top40; omega)]
    simp only
    rw [number_enc2 _ _ _ (w64_lt _) (by unfold top40; omega)]
    simp only
    have := number_enc2 (w64 sum) 2305843009213693950 [] (w64_lt _) (by omega)
    rw [List.append_nil] at this
    rw [this]
    simp only [RdS.fin]
    rw [if_neg (by simp)]
    simp only [e1, e2, e3, h0]
theorem bodyL_len (k : UInt8) (r : RecS) : (bodyL k r).length ≤ 31 + r.blocks.length := by
  have a := fun z => enc_le (w64 z) (w64_lt z)
  have a1 := a r.id
  have a2 := a r.base
  have a3 := a r.fr
  have a4 := a r.til
  have a5 := a r.count
  have a6 := a r.len
  have a7 := a r.sum
  unfold bodyL
  simp only [List.length_cons]
  split
  · simp only [encs_cons, encs_nil, List.length_append, List.append_nil]; omega
  · split
    · simp only [List.length_append]; omega
    · split
      · simp only [encs_cons, encs_nil, List.length_append, List.append_nil]; omega
      · simp only [encs_cons, encs_nil, List.length_append, List.append_nil]; omega
theorem rdrO_body {k : UInt8} {r : RecS} (hk : r.kind = (k.toNat : Int)) (h : rightO r) : rdrO ⟨textL (sealL (bodyL k r)), 0⟩ = .inr r := by
  have hb : r.blocks.length ≤ 128 := by
    rcases h with h | h | h | h
    · simp [h.2.2.2.2.2.2.2.1]
    · omega
    · simp [h.2.2.2.2.2.2.1]
    · simp [h.2.2.2.2.2.1]
  have hl := bodyL_len k r
  have hs := sealL_length (bodyL k r)
  have ht := bytes_text2 (sealL (bodyL k r)) [] 200 (by omega) (by omega)
  rw [List.append_nil] at ht
  unfold rdrO
  rw [show (200 : Int) = ((200 : Nat) : Int) from rfl, ht]
  simp only
  rw [if_neg (by simp), openL_seal]
  simp only
  rw [parO_body hk h]
end Go.Proofs.Ytjlimdiimdihfaa
