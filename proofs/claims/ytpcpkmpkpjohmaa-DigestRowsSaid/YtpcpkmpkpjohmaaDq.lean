/- DigestRows, walked. -/
import Derived.Test.YtpcpkmpkpjohmaaDo
import Derived.Test.YtpcpkmpkpjohmaaDl
import Derived.Test.YtpcpkmpkpjohmaaVa
import Derived.Deep.DeepCutAuto
import Derived.Deep.RegionHeld3
namespace Go.Proofs.Ytpcpkmpkpjohmaa
open Go.RowKit

/-- 's[i:j]' of bytes, whatever the capacity. -/
theorem cut_mid {P : Program} {t e : TypeId} {z : Value} {bytes : Nat} (he : Elm P t e z 1 bytes) (A : Option Addr) (n c i j : Nat) (hij : i ≤ j) (hj : j ≤ n) (hc : n ≤ c) :
    ∃ A', (∀ (kl kh : IntKind) (w : World), (Instr.slice t (.slice A n c) (some (.int kl (i : Int))) (some (.int kh (j : Int))) none).run P w = .ok (.slice A' (j - i) (c - i)) w) ∧
      (∀ (w : World) (B : Nat) (l : List UInt8), Rd w B A (vb l) → l.length = n → Rd w B A' (vb ((l.drop i).take (j - i)))) := by
  refine ⟨if c = i then A else A.map (·.add i), fun kl kh w => ?_, fun w B l hr hl => ?_⟩
  · have hs : P.elem t = e := by simp [Program.elem, he.1]
    obtain ⟨_, ⟨i', hi, _, hsize, _⟩, _, _⟩ := he
    rw [run_slice_lh w t A n c (by rw [hs]; assumption) kl kh (i : Int) (j : Int) (by omega) (by omega) (by omega)]
    simp [sizeOf, typeInfo, hs, hi, hsize, sliced]
  · by_cases h : c = i
    · rw [if_pos h, List.drop_of_length_le (by rw [hl]; omega), List.take_nil]
      exact Rd.nil_ _ _ _
    · rw [if_neg h, vb_take, vb_drop]
      exact (hr.drop _).take _

theorem mem_flat_le : ∀ (ls : List (List UInt8)) (x : List UInt8), x ∈ ls → x.length ≤ ls.flatten.length
  | [], x, h => by cases h
  | a :: ls, x, h => by
    rw [List.flatten_cons, List.length_append]
    rcases List.mem_cons.1 h with rfl | h
    · omega
    · have := mem_flat_le ls x h; omega
def DC : List (List UInt8) → List Value := fun ls => (ls.map digOf).flatMap DgS.cells
theorem DC_len (ls : List (List UInt8)) : (DC ls).length = ls.length * 2 := by
  unfold DC
  induction ls with
  | nil => rfl
  | cons a ls ih => simp only [List.map_cons, List.flatMap_cons, List.length_append, ih, List.length_cons, DgS.cells, List.length_nil]; omega
theorem DC_snoc (ls : List (List UInt8)) (x : List UInt8) : DC (ls ++ [x]) = DC ls ++ [.int .u64 (x.length : Int), .int .u64 (ofN 0 x : Int)] := by
  unfold DC
  rw [List.map_append, List.flatMap_append]
  rfl
theorem elm_dig : Elm Try.prog 48 46 (.agg #[.int .u64 0, .int .u64 0]) 2 16 := Elm.mk Try.underlying48 (by kernel_rfl) rfl (by omega)

attribute [local go_sem] min_int2
set_option linter.unusedSimpArgs false in
set_option maxHeartbeats 4000000 in
set_option maxRecDepth 100000 in
theorem drows_walk (A : Option Addr) (n c : Nat) (l : List UInt8) (hl : l.length = n) (hn : n ≤ c) (hm : c ≤ maxLen) (_hni : A = none → n = 0 ∧ c = 0) (A1 : Option Addr) (m c1 : Nat) (p : List UInt8) (hp : p.length = m) (_hn1 : m ≤ c1) (_hm1 : c1 ≤ maxLen) (_hni1 : A1 = none → m = 0 ∧ c1 = 0) (w : World) (hr : Rd w w.heap.size A (vb l)) (hr1 : Rd w w.heap.size A1 (vb p)) :
    Calls Try.prog 6 #[.slice A n c, .slice A1 m c1] w fun e w' => e = .returned (.bool true) ∧ Below w.heap.size w w' := by
  have Hl := Lib.hid hl
  have Hp := Lib.hid hp
  have Hn := Lib.hid hn
  have Hm := Lib.hid hm
  clear hl hp hn hm _hni _hn1 _hm1 _hni1
  go_enter Try.func6, Try.ntmps6
  go_wp2_with fail
  refine (dlives _).mono ?_
  rintro e w1 ⟨rfl, hb1⟩
  by_cases g1 : (3000 : Int) < n
  · go_wp2_with fail
    refine (dlives _).mono ?_
    rintro e w2 ⟨rfl, hb2⟩
    go_wp2_with fail
    go_ret
    exact ⟨rfl, below_tr hb1 hb2⟩
  by_cases g2 : (60 : Int) < m
  · go_wp2_with fail
    refine (dlives _).mono ?_
    rintro e w2 ⟨rfl, hb2⟩
    go_wp2_with fail
    go_ret
    exact ⟨rfl, below_tr hb1 hb2⟩
  have hn3 : n ≤ 3000 := by omega
  have hm6 : m ≤ 60 := by omega
  have d1 : decide ((3000 : Int) < n) = false := decide_eq_false g1
  have d2 : decide ((60 : Int) < m) = false := decide_eq_false g2
  clear g1 g2
  have Rro := Lib.hid (rof_any A n c l w1 Hl.out (by omega) (hr.below_ hb1))
  go_wp2_with fail
  refine (Rro.out).mono ?_
  rintro e w2 ⟨rfl, hb2⟩
  have hb12 := below_tr hb1 hb2
  have Rdo := Lib.hid (dof_any A n c l w2 Hl.out (by omega) (hr.below_ hb12))
  clear Rro
  go_wp2_with fail
  refine (Rdo.out).mono ?_
  rintro e w3 ⟨rfl, hb3⟩
  have hb13 := below_tr hb12 hb3
  clear Rdo hb1 hb2 hb12 hb3
  go_upto_region 5 with (fail)
  have hlast := ofN_lt l
  have BX : Bk (w3.alloc (.cells #[.int .u64 (n : Int), .int .u64 (ofN 0 l : Int)] 46)) w3.heap.size 46 #[.int .u64 (n : Int), .int .u64 (ofN 0 l : Int)] := Bk.new _ _ _
  have hbX := below_al hb13 (.cells #[.int .u64 (n : Int), .int .u64 (ofN 0 l : Int)] 46)
  generalize w3.alloc (.cells #[.int .u64 (n : Int), .int .u64 (ofN 0 l : Int)] 46) = X at *
  generalize w3.heap.size = g7 at *
  have hrX := hr.below_ hbX
  have hrX1 := hr1.below_ hbX
  have x0 : X.cell? ⟨g7, 0, none⟩ = some (.int .u64 (n : Int)) := BX.cell 0
  have x1 : X.cell? ⟨g7, 1, none⟩ = some (.int .u64 (ofN 0 l : Int)) := BX.cell 1
  clear hb13 hr hr1 d1 d2
  go_wp2_with fail
  go_loopw [8, 9, 42] (fun v8 a i wr => ∃ (q t : Nat) (ls : List (List UInt8)), q ≤ m ∧ t ≤ n ∧ i = .int .i64 q ∧ a = .int .i64 t ∧ Hid (ls.flatten = l.take t) ∧ Hid (ls.length = q) ∧ App wr X.heap.size 46 2 v8 q (DC ls) ∧ Below X.heap.size X wr) (fun _ _ i _ => m - (intOf i).toNat)
  case atStart => exact ⟨0, 0, [], Nat.zero_le _, Nat.zero_le _, rfl, rfl, rfl, rfl, App.nil_ _ _ _ _, Below.refl _ _⟩
  case round =>
    obtain ⟨q, t, ls, hq, ht, rfl, rfl, Hls, Hq, happ, hbr⟩ := hrel
    have hrr := hrX.below_ hbr
    by_cases hlt : q < m
    · obtain ⟨b, off, rfl, hbl, hcell⟩ := (hrX1.below_ hbr).byte (i := q) (by rw [Hp.out]; exact hlt)
      generalize p[q]'_ = x at hcell
      have hx : x.toNat < 256 := x.toNat_lt
      generalize x.toNat = y at hcell hx
      obtain ⟨u, hu⟩ : ∃ u : Nat, min (t + y) n = u := ⟨_, rfl⟩
      have hmin : min ((t : Int) + (y : Int)) (n : Int) = (u : Int) := by omega
      have htu : t ≤ u := by omega
      have hun : u ≤ n := by omega
      clear hu
      obtain ⟨A2, hsl, hcut⟩ := cut_mid (P := Try.prog) elm_u8 A n c t u htu hun Hn.out
      have hl2 : ((l.drop t).take (u - t)).length = u - t := by rw [List.length_take, List.length_drop, Hl.out]; omega
      have hdo := dof_any A2 (u - t) (c - t) ((l.drop t).take (u - t)) wr hl2 (by omega) (hcut _ _ _ hrr Hl.out)
      have hlu : (l.take u).length = u := by rw [List.length_take, Hl.out]; omega
      have hcat : l.take u = l.take t ++ (l.drop t).take (u - t) := by rw [← List.take_add]; congr 1; omega
      have Hcat := Lib.hid hcat
      have hof := fun (V : World) (hV : Rd V V.heap.size A (vb l)) => dof_any A u c (l.take u) V hlu (by omega) (by have := hV.take u; rwa [← vb_take] at this)
      have hdrop : (l.drop u).length = n - u := by rw [List.length_drop, Hl.out]
      have hcu := fun V : World => cut_good (digOf l) (digOf (l.take u)) V (by show (l.take u).length ≤ l.length; rw [List.length_take]; omega) (digOf_lt _) (digOf_lt _) (by show l.length < _; rw [Hl.out]; omega)
      have hcj := digOf_cut (l.take u) (l.drop u) (by rw [hlu, hdrop]; omega)
      rw [List.take_append_drop] at hcj
      rw [hcj] at hcu
      have e1 : (digOf l).val = .agg #[.int .u64 (n : Int), .int .u64 (ofN 0 l : Int)] := by unfold digOf DgS.val; rw [Hl.out]
      have e2 : (digOf (l.take u)).val = .agg #[.int .u64 (u : Int), .int .u64 (ofN 0 (l.take u) : Int)] := by unfold digOf DgS.val; rw [hlu]
      have e3 : (digOf (l.drop u)).val = .agg #[.int .u64 ((n - u : Nat) : Int), .int .u64 (ofN 0 (l.drop u) : Int)] := by unfold digOf DgS.val; rw [hdrop]
      rw [e1, e2, e3] at hcu
      clear e1 e2 e3 hcj
      generalize hsp : ofN 0 ((l.drop t).take (u - t)) = sp at hdo
      generalize ofN 0 (l.take u) = su at hof hcu
      generalize hsd : ofN 0 (l.drop u) = sd at hcu
      generalize hnu : n - u = nu at hcu hdrop
      generalize hpl : u - t = pl at hdo hsl hsp hl2
      have Hsp := Lib.hid hsp
      have Hsd := Lib.hid hsd
      have Hnu := Lib.hid hnu
      have Hpl := Lib.hid hpl
      have Hl2 := Lib.hid hl2
      have Hdo := Lib.hid hdo
      have Hof := Lib.hid hof
      have Hcu := Lib.hid hcu
      have Hcut := Lib.hid hcut
      have Hdrop := Lib.hid hdrop
      clear hcut hdo hof hcu hsp hsd hnu hpl hl2 hlu hcat hdrop
      go_wp2_with fail
      refine (Hdo.out).mono ?_
      rintro e w4 ⟨rfl, hb4⟩
      have happ4 := (happ.below hb4).alloc (.cells #[.int .u64 (pl : Int), .int .u64 (sp : Int)] 46)
      have hbr4 := below_al (below_tr hbr hb4) (.cells #[.int .u64 (pl : Int), .int .u64 (sp : Int)] 46)
      clear happ hb4 hbr
      go_upto_region 14 with (at_builtin; refine wpList_append_app _ rfl (.tmp 53) (.tmp 59) _ rfl X.heap.size _ _ 2 16 elm_dig _ q (DC ls) rfl happ4 _ _ 1 1 [.int .u64 (pl : Int), .int .u64 (sp : Int)] rfl rfl (Rd.new w4 #[.int .u64 (pl : Int), .int .u64 (sp : Int)] _) (by intro z hz; simp at hz; rcases hz with rfl | rfl <;> rfl) (by unfold maxLen; omega) (by omega) hbr4.size ?_; intro v5 w5 hA5)
      have hb5 := hbr4.trans hA5.below
      have happ5 := hA5.app
      have hr5 := hrX.below_ hb5
      have B5 := BX.below hb5 BX.lt
      have lt5 := B5.lt
      have y0 : w5.cell? ⟨g7, 0, none⟩ = some (.int .u64 (n : Int)) := B5.cell 0
      have y1 : w5.cell? ⟨g7, 1, none⟩ = some (.int .u64 (ofN 0 l : Int)) := B5.cell 1
      clear hA5 hbr4 happ4 hrr
      clear x0 x1 hcell hmin
      have ucI : (u : Int) ≤ (c : Int) := by have := Hn.out; omega
      have hD1 : Below w5.heap.size w5 w5.drew := below_drN (Below.refl w5.heap.size w5) 1
      have hD2 : Below w5.heap.size w5 (w5.alloc (.cells #[.int .u64 0, .int .u64 0] 46)).drew := below_drN (below_al (Below.refl w5.heap.size w5) (.cells #[.int .u64 0, .int .u64 0] 46)) 1
      go_cut [13, 14] (fun s13 s14 wc => ∃ g, s13 = .pointer (some ⟨g, 0, none⟩) ∧ s14 = .bool true ∧ Bk wc g 46 #[.int .u64 (nu : Int), .int .u64 (sd : Int)] ∧ Below w5.heap.size w5 wc)
      case first =>
        go_region_held3 (fun w' => w'.cell? ⟨g7, 0, none⟩ = some (.int .u64 (n : Int)) ∧ w'.cell? ⟨g7, 1, none⟩ = some (.int .u64 (ofN 0 l : Int)) ∧ g7 < w'.heap.size) (first | exact ⟨y0, y1, lt5⟩ | exact ⟨z0, z1, zl⟩ | exact ⟨v0, v1, vl⟩ | exact ⟨by go_keep, by go_keep, by (simp; omega)⟩ | go_keep)
          (first | (go_at_call 26; refine (Hof.out _ (by first | exact hr5 | exact hr5.alloc_ _)).mono ?_; rintro e wa ⟨rfl, hba⟩; (try have Nz : Bk wa w5.heap.size 46 #[.int .u64 0, .int .u64 0] := Bk.below (w := (w5.alloc (.cells #[.int .u64 0, .int .u64 0] 46)).drew) (Bk.new w5 _ _) (by exact hba) (by simp)); have Bz : Bk wa g7 46 #[.int .u64 (n : Int), .int .u64 (ofN 0 l : Int)] := (by first | exact Bk.below (w := w5.drew) B5 hba B5.lt | exact Bk.below (w := (w5.alloc (.cells #[.int .u64 0, .int .u64 0] 46)).drew) (B5.alloc _) hba (B5.alloc (.cells #[.int .u64 0, .int .u64 0] 46)).lt); have zl := Bz.lt; have z0 := Bz.cell 0; have z1 := Bz.cell 1; have nz0 : ¬ g7 = w5.heap.size := (by omega); have nz1 : ¬ w5.heap.size = g7 := (by omega); have nz2 : ¬ g7 = wa.heap.size := (by omega); have nz3 : ¬ wa.heap.size = g7 := (by omega)) | (go_at_call 27; refine (Hcu.out _).mono ?_; rintro e wb ⟨rfl, hbb⟩; (first | (have Nw := Nz.below hbb Nz.lt; have nw0 := Nw.cell 0; have nw1 := Nw.cell 1; have nf0 := Nw.free 0; have nf1 := Nw.free 1) | (have Nw : Bk wb wa.heap.size 46 #[.int .u64 0, .int .u64 0] := Bk.below (w := wa.alloc (.cells #[.int .u64 0, .int .u64 0] 46)) (Bk.new wa _ _) (by exact hbb) (by simp); have nw0 := Nw.cell 0; have nw1 := Nw.cell 1; have nf0 := Nw.free 0; have nf1 := Nw.free 1) | skip); have Bv : Bk wb g7 46 #[.int .u64 (n : Int), .int .u64 (ofN 0 l : Int)] := (by first | exact Bz.below hbb Bz.lt | exact (Bz.alloc (.cells #[.int .u64 0, .int .u64 0] 46)).below hbb (Bz.alloc (.cells #[.int .u64 0, .int .u64 0] 46)).lt); have vl := Bv.lt; have v0 := Bv.cell 0; have v1 := Bv.cell 1; have nz4 : ¬ g7 = wb.heap.size := (by omega); have nz5 : ¬ wb.heap.size = g7 := (by omega)))
        all_goals go_wp2
        all_goals go_meet
        · exact ⟨_, rfl, rfl, Bk.new _ _ _, below_al (below_tr (below_tr hD1 hba) hbb) _⟩
        · have hle : w5.heap.size ≤ wa.heap.size := hba.size
          exact ⟨_, rfl, rfl, (Nw.put 0 _).put 1 _, below_put (below_put (below_tr (below_al (below_tr hD1 hba) _) hbb) hle _) hle _⟩
        · exact ⟨_, rfl, rfl, (Nw.put 0 _).put 1 _, below_put (below_put (below_tr (below_tr hD2 hba) hbb) (Nat.le_refl _) _) (Nat.le_refl _) _⟩
      obtain ⟨g13, rfl, rfl, B13, hb6⟩ := hcut
      have hbY := below_tr hb5 hb6
      have happY := happ5.below hb6
      have hrY := hrX.below_ hbY
      clear hD1 hD2 hb5 hb6 happ5 hr5 B5 lt5 y0 y1 ucI hsl
      generalize wc = Y at *
      have z0 : Y.cell? ⟨g13, 0, none⟩ = some (.int .u64 (nu : Int)) := B13.cell 0
      have z1 : Y.cell? ⟨g13, 1, none⟩ = some (.int .u64 (sd : Int)) := B13.cell 1
      obtain ⟨A3, hs3, hcut3, _⟩ := cut_lo (P := Try.prog) elm_u8 A n c u hun Hn.out Hm.out
      have hof3 := fun (V : World) (hV : Rd V V.heap.size A (vb l)) => dof_any A3 nu (c - u) (l.drop u) V Hdrop.out (by have := Hnu.out; omega) (by have := hcut3 _ _ _ hV (by rw [vb_length, Hl.out, Nat.mul_one]); rw [Nat.mul_one] at this; rwa [← vb_drop] at this)
      rw [Hsd.out] at hof3
      rw [Hnu.out] at hs3
      have Hof3 := Lib.hid hof3
      clear hof3
      go_upto_region 15 with (fail)
      have Bz13 := B13.lt
      have hD3 : Below Y.heap.size Y Y.drew := below_drN (Below.refl Y.heap.size Y) 1
      go_cut [79] (fun s79 wc => s79 = .bool false ∧ Below Y.heap.size Y wc)
      case first =>
        go_region_held3 (fun w' => w'.cell? ⟨g13, 0, none⟩ = some (.int .u64 (nu : Int)) ∧ w'.cell? ⟨g13, 1, none⟩ = some (.int .u64 (sd : Int))) (first | exact ⟨z0, z1⟩ | exact ⟨k0, k1⟩ | go_keep)
          (first | (go_at_call 26; refine (Hof3.out _ (by exact hrY)).mono ?_; rintro e wa ⟨rfl, hba⟩; have Bk3 := Bk.below (w := Y.drew) B13 hba B13.lt; have k0 := Bk3.cell 0; have k1 := Bk3.cell 1))
        all_goals go_wp2
        all_goals go_meet
        all_goals exact ⟨rfl, below_tr hD3 hba⟩
      obtain ⟨rfl, hcut⟩ := hcut
      have hbZ := below_tr hbY hcut
      have happZ := happY.below hcut
      clear hcut hbY happY hrY z0 z1 B13 hD3
      generalize wc = Z at *
      go_wp2_with fail
      have hP : DC (ls ++ [(l.drop t).take pl]) = DC ls ++ [.int .u64 (pl : Int), .int .u64 (sp : Int)] := by rw [DC_snoc, Hl2.out, Hsp.out]
      rw [← hP] at happZ
      have hfl : (ls ++ [(l.drop t).take pl]).flatten = l.take u := by
        have h1 := Hcat.out
        rw [Hpl.out] at h1
        rw [List.flatten_append, Hls.out, h1]
        simp
      refine ⟨⟨q + 1, u, ls ++ [(l.drop t).take pl], by omega, hun, by simp, rfl, hfl, by rw [List.length_append, Hq.out]; rfl, happZ, hbZ⟩, ?_⟩
      simp only [intOf]
      omega
    · obtain rfl : q = m := by omega
      obtain ⟨A4, hs4, hcut4, _⟩ := cut_lo (P := Try.prog) elm_u8 A n c t ht Hn.out Hm.out
      have hl4 : (l.drop t).length = n - t := by rw [List.length_drop, Hl.out]
      have hof4 := fun (V : World) (hV : Rd V V.heap.size A (vb l)) => dof_any A4 (n - t) (c - t) (l.drop t) V hl4 (by omega) (by have := hcut4 _ _ _ hV (by rw [vb_length, Hl.out, Nat.mul_one]); rw [Nat.mul_one] at this; rwa [← vb_drop] at this)
      have hfl : (ls ++ [l.drop t]).flatten = l := by
        rw [List.flatten_append, Hls.out]
        simp
      have hP : DC (ls ++ [l.drop t]) = DC ls ++ [.int .u64 ((n - t : Nat) : Int), .int .u64 (ofN 0 (l.drop t) : Int)] := by rw [DC_snoc, hl4]
      have hjo := fun (V : World) (A5 : Option Addr) (c5 : Nat) (hV : Rd V V.heap.size A5 (DC (ls ++ [l.drop t]))) => join_any A5 (q + 1) c5 ((ls ++ [l.drop t]).map digOf) V (by rw [List.length_map, List.length_append, Hq.out]; rfl) (by omega) hV (by
        intro x hx
        obtain ⟨y, hy, rfl⟩ := List.mem_map.1 hx
        have h1 := mem_flat_le _ _ hy
        rw [hfl, Hl.out] at h1
        have h2 := digOf_lt y
        unfold PR at h2
        exact ⟨by show y.length < _; omega, by omega⟩)
      rw [digOf_join _ (by rw [hfl, Hl.out]; omega), hfl, hP] at hjo
      have e1 : (digOf l).val = .agg #[.int .u64 (n : Int), .int .u64 (ofN 0 l : Int)] := by unfold digOf DgS.val; rw [Hl.out]
      rw [e1] at hjo
      clear e1 hP hfl hl4 hcut4
      generalize ofN 0 (l.drop t) = s4 at *
      generalize n - t = n4 at *
      have Hof4 := Lib.hid hof4
      have Hjo := Lib.hid hjo
      clear hof4 hjo
      have B5 := BX.below hbr BX.lt
      have lt5 := B5.lt
      have y0 : wr.cell? ⟨g7, 0, none⟩ = some (.int .u64 (n : Int)) := B5.cell 0
      have y1 : wr.cell? ⟨g7, 1, none⟩ = some (.int .u64 (ofN 0 l : Int)) := B5.cell 1
      have hD1 : Below wr.heap.size wr wr.drew := below_drN (Below.refl wr.heap.size wr) 1
      have hgX := BX.lt
      clear x0 x1
      go_upto_region 19 with (fail)
      go_region_held3 (fun w' => w'.cell? ⟨g7, 0, none⟩ = some (.int .u64 (n : Int)) ∧ w'.cell? ⟨g7, 1, none⟩ = some (.int .u64 (ofN 0 l : Int))) (first | exact ⟨y0, y1⟩ | exact ⟨k0, k1⟩ | exact ⟨v0, v1⟩ | exact ⟨j0, j1⟩ | go_keep)
        (first | (go_at_call 26; refine (Hof4.out _ (by exact hrr)).mono ?_; rintro e wa ⟨rfl, hba⟩; have Bz := Bk.below (w := wr.drew) B5 hba B5.lt; have zl := Bz.lt; have k0 := Bz.cell 0; have k1 := Bz.cell 1; have nz2 : ¬ g7 = wa.heap.size := (by omega); have nz3 : ¬ wa.heap.size = g7 := (by omega); have happa := (App.below (w := wr.drew) happ hba).alloc (.cells #[.int .u64 (n4 : Int), .int .u64 (s4 : Int)] 46); have hbA := below_al (below_tr (below_tr hbr hD1) hba) (.cells #[.int .u64 (n4 : Int), .int .u64 (s4 : Int)] 46)) | (refine step_append_app _ rfl (.tmp 82) (.tmp 87) _ rfl X.heap.size _ _ 2 16 elm_dig _ q (DC ls) rfl happa _ _ 1 1 [.int .u64 (n4 : Int), .int .u64 (s4 : Int)] rfl rfl (Rd.new wa #[.int .u64 (n4 : Int), .int .u64 (s4 : Int)] _) (by intro z hz; simp at hz; rcases hz with rfl | rfl <;> rfl) (by unfold maxLen; omega) (by omega) hbA.size ?_; intro v5 w5 hA5; obtain ⟨A5, c5, rfl, _, hr5⟩ := hA5.app.slice; have hbB := hbA.trans hA5.below; have Bv := BX.below hbB hgX; have v0 := Bv.cell 0; have v1 := Bv.cell 1) | (go_at_call 28; refine (Hjo.out _ _ _ hr5).mono ?_; rintro e wj ⟨rfl, hbj⟩; have hbC := below_tr hbB hbj; have Bj := BX.below hbC hgX; have j0 := Bj.cell 0; have j1 := Bj.cell 1))
      go_wp2
      go_ret
      exact ⟨rfl, below_tr hbX hbC⟩
end Go.Proofs.Ytpcpkmpkpjohmaa
