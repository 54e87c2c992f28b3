/- DiskActs' walk. -/
import Derived.Test.YteglbehjokldjaaKh
import Derived.Deep.DeepCutAuto
import Derived.Deep.CutBlock
import Derived.Test.YteglbehjokldjaaKf
import Derived.Test.YteglbehjokldjaaRo
namespace Go.Proofs.Yteglbehjokldjaa
open Go.RowKit Go.ChangeShapes Go.WideShapes Go.ChangeAt
attribute [local go_sem] max_int2 min_int2

theorem xor255 (c : UInt8) : ∃ c' : UInt8, bits .xor .u8 (c.toNat : Int) 255 = (c'.toNat : Int) := by
  have h := c.toNat_lt
  have hx : c.toNat ^^^ 255 < 2 ^ 8 := Nat.xor_lt_two_pow (by omega) (by omega)
  refine ⟨UInt8.ofNat (c.toNat ^^^ 255), ?_⟩
  have h2 : (255 : Int) = ((255 : Nat) : Int) := rfl
  rw [h2, u8_xor_nat _ _ h (by omega)]
  simp
/-- A call of layer 5. -/
structure KaS where
  kind : Nat
  i : Int
  sz : Int
  A : Option Addr
  c : Nat
  l : List UInt8
def KaS.cells (a : KaS) : List Value := [.int .u8 (a.kind : Int), .int .i64 a.i, .int .i64 a.sz, .slice a.A a.l.length a.c]
structure KaS.ok (w : World) (a : KaS) : Prop where
  k : a.kind < 256
  i : -9223372036854775808 ≤ a.i ∧ a.i ≤ 9223372036854775807
  sz : -9223372036854775808 ≤ a.sz ∧ a.sz ≤ 9223372036854775807
  cap : a.l.length ≤ a.c ∧ a.c ≤ maxLen
  nil : a.A = none → a.l.length = 0
  rd : Rd w w.heap.size a.A (vb a.l)

theorem flat4 (l : List KaS) (k : Nat) (a : KaS) (h : l[k]? = some a) : (l.flatMap KaS.cells)[k * 4]? = some (.int .u8 (a.kind : Int)) ∧ (l.flatMap KaS.cells)[k * 4 + 1]? = some (.int .i64 a.i) ∧ (l.flatMap KaS.cells)[k * 4 + 2]? = some (.int .i64 a.sz) ∧ (l.flatMap KaS.cells)[k * 4 + 3]? = some (.slice a.A a.l.length a.c) := by
  induction l generalizing k with
  | nil => simp at h
  | cons b l ih =>
    cases k with
    | zero =>
      simp at h
      subst h
      simp [KaS.cells]
    | succ k =>
      have := ih k (by simpa using h)
      rw [List.flatMap_cons]
      have e : (k + 1) * 4 = 4 + k * 4 := by omega
      have hl : b.cells.length = 4 := rfl
      rw [e, show 4 + k * 4 + 1 = 4 + (k * 4 + 1) from by omega, show 4 + k * 4 + 2 = 4 + (k * 4 + 2) from by omega, show 4 + k * 4 + 3 = 4 + (k * 4 + 3) from by omega]
      rw [List.getElem?_append_right (by omega), List.getElem?_append_right (by omega), List.getElem?_append_right (by omega), List.getElem?_append_right (by omega), hl]
      simpa using this

/-- The disk and its model, alike. -/
def Both (w : World) (B g pg gm k : Nat) : Prop :=
  ∃ p bs gs gb, Dk w g pg gs k p bs ∧ Md w gm gb k p bs ∧ B ≤ gs ∧ B ≤ gb

theorem plN_planned (p : PowS) (a t : Int) : plN (p.planned a t) = max a (-1) := by
  unfold plN PowS.planned
  by_cases h : 0 ≤ a
  · simp [h]; omega
  · simp [h]; omega
theorem pos_planned (p : PowS) (a t : Int) (ha : -9223372036854775808 ≤ a ∧ a ≤ 9223372036854775807) : (p.planned a t).pos := by
  refine ⟨fun h => ?_, ha⟩
  simpa [PowS.planned] using h
theorem own_frm {w w' : World} {base size n : Nat} {e : TypeId} {A : Option Addr} {c : Nat} {xs : List Value} {F : List Nat} (h : w.ownsRow base e size (.slice A n c) n xs) (k : Frm w w' F) (hF : ∀ a, A = some a → a.block ∉ F) : w'.ownsRow base e size (.slice A n c) n xs := by
  refine ⟨h.1, ?_⟩
  rcases h.2 with h2 | ⟨g, cap, cur, h1, h2, h3, h4⟩
  · exact .inl h2
  · refine .inr ⟨g, cap, cur, h1, h2, ?_, h4⟩
    have hA : A = some ⟨g, 0, none⟩ := by injection h1
    exact Bk.frm (t := e) h3 k (hF _ hA)
theorem Both.frm {w w' : World} {B g pg gm k : Nat} {F : List Nat} (h : Both w B g pg gm k) (hg : B ≤ g) (hpg : B ≤ pg) (hgm : B ≤ gm) (f : Frm w w' F) (hF : ∀ x ∈ F, x < B ∨ w.heap.size ≤ x) : Both w' B g pg gm k := by
  obtain ⟨p, bs, gs, gb, h1, h2, h3, h4⟩ := h
  have key : ∀ y, B ≤ y → y < w.heap.size → y ∉ F := fun y hy1 hy2 hm => by
    rcases hF y hm with h | h <;> omega
  exact ⟨p, bs, gs, gb, h1.frm f (key _ hg h1.str.lt) (key _ hpg h1.pow.1.lt) (key _ h3 h1.sec.lt), h2.frm f (key _ hgm h2.str.lt) (key _ h4 h2.dat.lt), h3, h4⟩
theorem readR_len (p : PowS) (bs : List UInt8) (n : Nat) (i sz : Int) : (readR p bs n i sz).2.length ≤ bs.length := by
  unfold readR
  split
  · exact Nat.zero_le _
  · split
    · exact Nat.zero_le _
    · show ((bs.drop _).take _).length ≤ _
      rw [List.length_take, List.length_drop]
      omega
theorem getR_eq (p : PowS) (bs : List UInt8) (n : Nat) (i : Int) : getR p bs n i = readR p bs n i 64 := by
  unfold getR
  split
  · rename_i h
    unfold readR
    rw [if_pos (by omega)]
  · rfl
theorem readR_end (p : PowS) (bs : List UInt8) (n : Nat) : (readR p bs n (n : Int) 64).1 = 1 := by
  unfold readR
  rw [if_pos (by omega)]
/-- The same, and a slice of one's own apart. -/
def BothO (w : World) (B g pg gm k : Nat) (A : Option Addr) : Prop :=
  ∃ p bs gs gb, Dk w g pg gs k p bs ∧ Md w gm gb k p bs ∧ B ≤ gs ∧ B ≤ gb ∧ ∀ a, A = some a → a.block ≠ g ∧ a.block ≠ pg ∧ a.block ≠ gm ∧ a.block ≠ gs ∧ a.block ≠ gb
theorem BothO.frm {w w' : World} {B g pg gm k n c : Nat} {A : Option Addr} (h : BothO w B g pg gm k A) (f : Frm w w' (Value.slice A n c).ownBlock.toList) : Both w' B g pg gm k := by
  obtain ⟨p, bs, gs, gb, h1, h2, h3, h4, h5⟩ := h
  have key : ∀ x ∈ (Value.slice A n c).ownBlock.toList, x ≠ g ∧ x ≠ pg ∧ x ≠ gm ∧ x ≠ gs ∧ x ≠ gb := fun x hx => by
    cases A with
    | none => simp [Value.ownBlock] at hx
    | some a =>
      have hx : x = a.block := by simpa [Value.ownBlock] using hx
      subst hx
      exact h5 a rfl
  exact ⟨p, bs, gs, gb, h1.frm f (fun hm => (key _ hm).1 rfl) (fun hm => (key _ hm).2.1 rfl) (fun hm => (key _ hm).2.2.2.1 rfl), h2.frm f (fun hm => (key _ hm).2.2.1 rfl) (fun hm => (key _ hm).2.2.2.2 rfl), h3, h4⟩
set_option maxHeartbeats 8000000 in
set_option maxRecDepth 100000 in
theorem dacts_walk (x : Int) (A : Option Addr) (n c : Nat) (l : List KaS) (hl : l.length = n) (w : World) (hok : ∀ a ∈ l, a.ok w) (hr : Rd w w.heap.size A (l.flatMap KaS.cells)) :
    Calls Try.prog 3 #[.int .i64 x, .slice A n c] w fun e w' => e = .returned (.bool true) ∧ Below w.heap.size w w' := by
  have Hl := Lib.hid hl
  have Hok := Lib.hid hok
  clear hl hok
  by_cases hbig : (100 : Int) < (n : Int)
  · go_enter Try.func3, Try.ntmps3
    go_wp2_with fail
    refine (klives w).mono ?_
    rintro e w1 ⟨rfl, hb1⟩
    go_wp2_with fail
    refine (klives w1).mono ?_
    rintro e w2 ⟨rfl, hb2⟩
    go_wp2
    go_ret
    exact ⟨rfl, below_tr hb1 hb2⟩
  obtain ⟨i9, hi9, hiv⟩ := idx_of x 9 (by omega) (by omega)
  obtain ⟨k, hk⟩ : ∃ k, k = 1 + i9 := ⟨_, rfl⟩
  have hk1 : 1 ≤ k := by omega
  have hk9 : k ≤ 9 := by omega
  have hkv : 1 + wrap64 ((IntKind.u64.wrap x).tmod 9) = (k : Int) := by omega
  have hw9 : 0 ≤ wrap64 ((IntKind.u64.wrap x).tmod 9) ∧ wrap64 ((IntKind.u64.wrap x).tmod 9) < 9 := by omega
  have Hkv := Lib.hid hkv
  clear hk hiv hi9 hkv
  have hel := elm_u8
  obtain ⟨Z, hZ⟩ : ∃ Z, Z = (vb (List.replicate (64 * k) 0)).toArray := ⟨_, rfl⟩
  have HZ := Lib.hid hZ
  clear hZ
  go_enter Try.func3, Try.ntmps3
  go_wp2_with fail
  refine (klives w).mono ?_
  rintro e w1 ⟨rfl, hb1⟩
  go_wp2_with fail
  rw [Hkv.out]
  refine (pow_new w1).mono ?_
  rintro e w2 ⟨pg, rfl, hpg, hp, hb2⟩
  go_wp2_with fail
  refine (dnew_ok w2 k pg _ hp hk1 (by omega)).mono ?_
  rintro e w3 ⟨g, gs, rfl, hg, hgs, hne, hD, hb3⟩
  have hb := below_tr (below_tr hb1 hb2) hb3
  have hB1 : w.heap.size ≤ pg := Nat.le_trans hb1.size hpg
  have hB2 : w.heap.size ≤ g := Nat.le_trans (below_tr hb1 hb2).size hg
  have hB3 : w.heap.size ≤ gs := Nat.le_trans (below_tr hb1 hb2).size hgs
  have hmade : madeCells (Value.int .u8 0).cells (64 * k * 1) = Z := by
    rw [HZ.out, Nat.mul_one]
    show madeCells #[.int .u8 0] (64 * k) = _
    rw [made_one]
    congr 1
    simp [vb]
  clear hb1 hb2 hb3 hpg hg hgs hp
  go_wp2_with (refine wpList_make_cs w3 rfl _ _ _ rfl _ _ 1 1 hel .i64 .i64 _ _ (64 * k) (64 * k) rfl rfl (by simp) (by simp) (Nat.le_refl _) (by omega) (by omega) Z hmade ?_)
  have hM4 : Md ((w3.alloc (.cells Z 5)).alloc (.cells #[.slice (some ⟨w3.heap.size, 0, none⟩) (64 * k) (64 * k), .bool true, .int .i64 (-1), .int .i64 0] 34)) (w3.heap.size + 1) w3.heap.size k PowS.new (List.replicate (64 * k) 0) := by
    refine ⟨?_, ?_, ⟨(fun h => by cases h), by simp [PowS.ok, PowS.new]⟩, List.length_replicate, hk1, by omega⟩
    · have h := Bk.new (w3.alloc (.cells Z 5)) 34 #[.slice (some ⟨w3.heap.size, 0, none⟩) (64 * k) (64 * k), .bool true, .int .i64 (-1), .int .i64 0]
      rw [show (w3.alloc (.cells Z 5)).heap.size = w3.heap.size + 1 by simp] at h
      exact h
    · rw [← HZ.out]; exact (Bk.new w3 _ _).alloc _
  have hD4 : Dk ((w3.alloc (.cells Z 5)).alloc (.cells #[.slice (some ⟨w3.heap.size, 0, none⟩) (64 * k) (64 * k), .bool true, .int .i64 (-1), .int .i64 0] 34)) g pg gs k PowS.new (List.replicate (64 * k) 0) := hD.below (below_al (below_al (Below.refl _ _) _) _)
  have hb4 := below_al (below_al hb (.cells Z 5)) (.cells #[.slice (some ⟨w3.heap.size, 0, none⟩) (64 * k) (64 * k), .bool true, .int .i64 (-1), .int .i64 0] 34)
  have hB5 : w.heap.size ≤ w3.heap.size := hb.size
  have hB6 : w.heap.size ≤ w3.heap.size + 1 := by omega
  generalize (w3.alloc (.cells Z 5)).alloc (.cells #[.slice (some ⟨w3.heap.size, 0, none⟩) (64 * k) (64 * k), .bool true, .int .i64 (-1), .int .i64 0] 34) = W4 at *
  have hboth : Both W4 w.heap.size g pg (w3.heap.size + 1) k := ⟨_, _, _, _, hD4, hM4, hB3, hB5⟩
  have hL := Lib.hid (dlen_any W4 g pg gs k _ _ hD4)
  generalize w3.heap.size + 1 = gm at *
  have HB := Lib.hid hboth
  clear hM4 hD4 hB5 hb hD hboth HZ hmade hne hB3
  go_wp2_with (go_at_call 17; refine (hL.out).mono ?_; rintro e w5 ⟨rfl, rfl⟩)
  go_loopw [57] (fun iv wr => ∃ q : Nat, q ≤ n ∧ iv = .int .i64 (q : Int) ∧ Hid (Both wr w.heap.size g pg gm k) ∧ Below w.heap.size w wr) (fun iv _ => n - (intOf iv).toNat)
  case atStart => exact ⟨0, Nat.zero_le _, rfl, HB, hb4⟩
  case round =>
    obtain ⟨q, hq, rfl, HB, hbe⟩ := hrel
    by_cases hlt : q < n
    · obtain ⟨a, ha⟩ : ∃ a, l[q]? = some a := ⟨l[q]'(by have := Hl.out; omega), List.getElem?_eq_getElem _⟩
      obtain ⟨g0, g1, g2, g3⟩ := flat4 l q a ha
      obtain ⟨b, off, rfl, hbw, hc0⟩ := hr _ _ g0
      obtain ⟨b1, off1, e1, _, hc1⟩ := hr _ _ g1
      obtain ⟨b2, off2, e2, _, hc2⟩ := hr _ _ g2
      obtain ⟨b3, off3, e3, _, hc3⟩ := hr _ _ g3
      simp only [Option.some.injEq, Addr.mk.injEq, and_true] at e1 e2 e3
      obtain ⟨rfl, rfl⟩ := e1
      obtain ⟨rfl, rfl⟩ := e2
      obtain ⟨rfl, rfl⟩ := e3
      rw [← hbe.cell (p := ⟨b, _, none⟩) hbw] at hc0 hc1 hc2 hc3
      rw [← Nat.add_assoc] at hc1 hc2 hc3
      have hao := Hok.out a (List.mem_of_getElem? ha)
      obtain ⟨ak, ai, az, aA, ac, al⟩ := a
      obtain ⟨hk', hi', hz', ⟨hcap1, hcap2⟩, hnil, hrd⟩ := hao
      simp only at hc0 hc1 hc2 hc3 hk' hi' hz' hcap1 hcap2 hnil hrd
      obtain ⟨m, hm⟩ : ∃ m, m = al.length := ⟨_, rfl⟩
      rw [← hm] at hc3 hcap1 hnil
      have Hm := Lib.hid hm.symm
      have hrda := hrd.below_ hbe
      clear g0 g1 g2 g3 ha hm
      by_cases hbad : (900 : Int) < (m : Int) ∨ (¬ (900 : Int) < (m : Int) ∧ (2000 : Int) < az)
      · rcases hbad with h9 | ⟨h9, h20⟩
        all_goals
          go_wp2_with fail
          go_ret
          exact ⟨rfl, below_al hbe _⟩
      have h9 : ¬ (900 : Int) < (m : Int) := by omega
      have h20 : ¬ (2000 : Int) < az := by omega
      clear hbad
      go_upto_region 14 with (fail)
      obtain ⟨p, bs, gs', gb', hDr, hMr, hgs', hgb'⟩ := HB.out
      have l1 := hDr.str.lt
      have l2 := hDr.pow.1.lt
      have l3 := hDr.sec.lt
      have l4 := hMr.str.lt
      have l5 := hMr.dat.lt
      have HDr := Lib.hid hDr
      have HMr := Lib.hid hMr
      clear hDr hMr
      have hA0 : Bk (wr.alloc (.cells #[.int .u8 (ak : Int), .int .i64 ai, .int .i64 az, .slice aA m ac] 37)) wr.heap.size 37 #[.int .u8 (ak : Int), .int .i64 ai, .int .i64 az, .slice aA m ac] := Bk.new _ _ _
      have hWb := below_al hbe (.cells #[.int .u8 (ak : Int), .int .i64 ai, .int .i64 az, .slice aA m ac] 37)
      have hWf := (Frm.refl wr []).alloc (.cells #[.int .u8 (ak : Int), .int .i64 ai, .int .i64 az, .slice aA m ac] 37)
      have hga : w.heap.size ≤ wr.heap.size := hbe.size
      have hglt : g < wr.heap.size := HDr.out.str.lt
      generalize wr.alloc (.cells #[.int .u8 (ak : Int), .int .i64 ai, .int .i64 az, .slice aA m ac] 37) = W5 at *
      generalize wr.heap.size = ga at *
      have d3 : W5.cell? ⟨ga, 3, none⟩ = some (.slice aA m ac) := hA0.cell 3
      have d3' : (W5.alloc (.cells #[] 5)).cell? ⟨ga, 3, none⟩ = some (.slice aA m ac) := (hA0.alloc _).cell 3
      have hrd5 : Rd W5 W5.heap.size aA (vb al) := (hrda.frm2 hWf (by simp)).mono (Nat.le_of_lt hA0.lt)
      go_upto_region 15 with (at_builtin; refine wpList_copy_bytes _ rfl (.tmp 70) (.tmp 72) _ rfl _ _ hel rfl aA m ac al rfl Hm.out hrd5 (by omega) ?_; intro Ao co W6 hC)
      have hF56 := Frm.of_below hC.below []
      have hA6 := hA0.frm hF56 (by simp)
      have hF06 := hWf.trans hF56
      have hb6 := hWb.trans (hC.below.mono hWb.size)
      have hown6 : W6.ownsRow ga 5 1 (.slice Ao m co) m (vb al) := own_mono hC.own (by have := hA0.lt; omega)
      have hlo6 : ∀ a, Ao = some a → ga < a.block := fun a ha => by
        have := (hC.own.lt a.block (by rw [ha]; rfl)).1
        have := hA0.lt
        omega
      have hcap6 := hC.cap
      have hmax6 := hC.max
      clear hC hA0 d3 d3' hrd5 hF56 hWf hWb
      have hD := HDr.out.frm hF06 (by simp) (by simp) (by simp)
      have hM := HMr.out.frm hF06 (by simp) (by simp)
      have d0 : W6.cell? ⟨ga, 0, none⟩ = some (.int .u8 (ak : Int)) := hA6.cell 0
      have h7 : (ak : Int) % 7 = 0 ∨ (ak : Int) % 7 = 1 ∨ (ak : Int) % 7 = 2 ∨ (ak : Int) % 7 = 3 ∨ (ak : Int) % 7 = 4 ∨ (ak : Int) % 7 = 5 ∨ (ak : Int) % 7 = 6 := by omega
      go_upto_block 2 with (fail)
      go_cut [12, 76] (fun s12 _ wc => s12 = .slice Ao m co ∧ Hid (BothO wc w.heap.size g pg gm k Ao) ∧ Hid (∃ al' : List UInt8, wc.ownsRow ga 5 1 (.slice Ao m co) m (vb al') ∧ al'.length = m) ∧ Below w.heap.size w wc)
      case first =>
        have hro6 : Rd W6 W6.heap.size Ao (vb al) := Rd.of_own hown6
        have hra6 : Rd W6 w.heap.size aA (vb al) := hrd.below hb6
        have hsz6 := hb6.size
        have nf : ∀ a, Ao = some a → a.block ∉ [pg, gs', gm, gb'] := fun a ha => by have := hlo6 a ha; simp; omega
        have nfo : ∀ a, Ao = some a → a.block ≠ g ∧ a.block ≠ pg ∧ a.block ≠ gm ∧ a.block ≠ gs' ∧ a.block ≠ gb' := fun a ha => by have := hlo6 a ha; omega
        have nf2 : 0 < m → ∀ a, Ao = some a → a.block ∉ [pg, gs'] := fun _ a ha => by have := hlo6 a ha; simp; omega
        have ne1 : g ≠ gm := hD.str.ne_ hM.str (by decide)
        have ne2 : g ≠ gb' := hD.str.ne_ hM.dat (by decide)
        have ne3 : pg ≠ gm := hD.pow.1.ne_ hM.str (by decide)
        have ne4 : pg ≠ gb' := hD.pow.1.ne_ hM.dat (by decide)
        have ne5 : gs' ≠ gm := hD.sec.ne_ hM.str (by decide)
        have ne6 : gs' ≠ gb' := hD.sec.ne_ hM.dat (by decide)
        have ne7 : ga ≠ pg := hA6.ne_ hD.pow.1 (by decide)
        have ne8 : ga ≠ gs' := hA6.ne_ hD.sec (by decide)
        have ne9 : ga ≠ gm := hA6.ne_ hM.str (by decide)
        have ne10 : ga ≠ gb' := hA6.ne_ hM.dat (by decide)
        have nfa : 0 < m → ∀ a, aA = some a → a.block ∉ [gm, gb'] := fun h0 a ha => by
          obtain ⟨b9, o9, e9, hb9, _⟩ := hrd.at_ (by rw [vb_length, Hm.out]; exact h0)
          rw [e9] at ha
          injection ha with ha
          subst ha
          simp
          omega
        rcases h7 with h7 | h7 | h7 | h7 | h7 | h7 | h7
        ·
          --[b0
          as_aux_lemma =>
            go_upto_region 19 with (fail)
            haveI : Nonempty (Wof fun W => W.cell? ⟨ga, 1, none⟩ = some (.int .i64 ai) ∧ W.cell? ⟨ga, 3, none⟩ = some (.slice aA m ac)) := ⟨⟨W6, hA6.cell 1, hA6.cell 3⟩⟩
            have f1 : ∀ u : Wof fun W => W.cell? ⟨ga, 1, none⟩ = some (.int .i64 ai) ∧ W.cell? ⟨ga, 3, none⟩ = some (.slice aA m ac), u.1.cell? ⟨ga, 1, none⟩ = some (.int .i64 ai) := fun u => u.2.1
            have f3 : ∀ u : Wof fun W => W.cell? ⟨ga, 1, none⟩ = some (.int .i64 ai) ∧ W.cell? ⟨ga, 3, none⟩ = some (.slice aA m ac), u.1.cell? ⟨ga, 3, none⟩ = some (.slice aA m ac) := fun u => u.2.2
            refine wp_region_pcs [.reads [0, 1, 3, 5, 6, 8, 2, 7, 9], .write 4, .write 10, .reads [11]] (fun W => ∃ u : Wof fun W => W.cell? ⟨ga, 1, none⟩ = some (.int .i64 ai) ∧ W.cell? ⟨ga, 3, none⟩ = some (.slice aA m ac), W = u.1) (by kernel_rfl) (by kernel_rfl) (by kernel_rfl) (by kernel_rfl) ⟨⟨W6.drew, hA6.cell 1, hA6.cell 3⟩, rfl⟩ ?_
            refine wpPcs_reads (by simp only [List.filterMap_cons, List.filterMap_nil, List.getElem?_toArray, List.getElem?_cons_succ, List.getElem?_cons_zero]; rfl) ?_
            intro K0 hK0
            refine (show wpQuiet _ _ _ _ (_ :: _ :: _ :: _ :: _ :: _ :: _ :: _ :: _ :: []) _ from ?_)
            repeat (go_big_quiet_step (fail))
            refine wpQuiet_nil ?_
            refine hK0 _ ?_
            clear hK0 K0
            refine wpPcs_write (by simp only [List.getElem?_toArray, List.getElem?_cons_succ, List.getElem?_cons_zero]; rfl) ?_
            intro K hK
            go_simp
            refine (dput_any W6.drew g pg gs' k p bs (hD.frm (Frm.refl W6 []).drew (by simp) (by simp) (by simp)) ai Ao m co al Hm.out hro6).mono ?_
            rintro e w7 ⟨rfl, hD7, hF7⟩
            go_simp
            have hA7 := (hA6.drewN 1).frm hF7 (by simp; omega)
            refine hK (fun W => ∃ u : Wof fun W => W.cell? ⟨ga, 1, none⟩ = some (.int .i64 ai) ∧ W.cell? ⟨ga, 3, none⟩ = some (.slice aA m ac), W = u.1) _ _ (fun W h => h) ⟨⟨w7, hA7.cell 1, hA7.cell 3⟩, rfl⟩ ?_
            clear hK K
            refine wpPcs_write (by simp only [List.getElem?_toArray, List.getElem?_cons_succ, List.getElem?_cons_zero]; rfl) ?_
            intro K hK
            go_simp
            have hF67 : Frm W6 w7 [pg, gs'] := ((Frm.refl W6 [pg, gs']).drew).trans hF7
            have hM7 := hM.frm hF67 (by simp; omega) (by simp; omega)
            refine (mput_any w7 gm gb' k p bs hM7 ai aA m ac al Hm.out ((hra6.frm hF67 hsz6 (by intro x hx; simp at hx; omega)).mono (Nat.le_trans hsz6 hF67.size))).mono ?_
            rintro e w8 ⟨rfl, hM8, hF8⟩
            go_simp
            have hA8 := hA7.frm hF8 (by simp; omega)
            have hD8 := hD7.frm hF8 (by simp; omega) (by simp; omega) (by simp; omega)
            have hF68 : Frm W6 w8 [pg, gs', gm, gb'] := (hF67.sub (by simp)).tr hF8 (by simp)
            refine hK (fun W => ∃ u : Wof fun W => W.cell? ⟨ga, 1, none⟩ = some (.int .i64 ai) ∧ W.cell? ⟨ga, 3, none⟩ = some (.slice aA m ac), W = u.1) _ _ (fun W h => h) ⟨⟨w8, hA8.cell 1, hA8.cell 3⟩, rfl⟩ ?_
            clear hK K
            generalize putR p bs k ai al = R at *
            obtain ⟨r1, r2, r3⟩ := R
            simp only at hD8 hM8 ⊢
            refine wpPcs_reads (by simp only [List.filterMap_cons, List.filterMap_nil, List.getElem?_toArray, List.getElem?_cons_succ, List.getElem?_cons_zero]; rfl) ?_
            intro K0 hK0
            refine (show wpQuiet _ _ _ _ (_ :: []) _ from ?_)
            repeat (go_big_quiet_step (fail))
            refine wpQuiet_nil ?_
            refine hK0 _ ?_
            clear hK0 K0
            refine wpPcs_nil ?_
            go_wp2
            go_meet
            refine ⟨rfl, Lib.hid ⟨_, _, _, _, hD8, hM8, hgs', hgb', nfo⟩, Lib.hid ⟨al, ?_, Hm.out⟩, hb6.trans (hF68.below (by intro x hx; simp at hx; omega) hb6.size)⟩
            exact own_frm hown6 hF68 nf
          --]b0
        ·
          --[b1
          as_aux_lemma =>
            have x1 : W6.cell? ⟨ga, 1, none⟩ = some (.int .i64 ai) := hA6.cell 1
            have x2 : W6.cell? ⟨ga, 2, none⟩ = some (.int .i64 az) := hA6.cell 2
            have hbl : bs.length ≤ 576 := by have := hD.len; omega
            have hG := dget_any W6 g pg gs' k p bs hD ai
            rw [getR_eq] at hG
            have hR := fun (W : World) (h : Md W gm gb' k p bs) => mread_any W gm gb' k p bs h ai 64
            have hRl : (readR p bs k ai 64).2.length ≤ 576 := Nat.le_trans (readR_len p bs k ai 64) hbl
            have hRe : ai = (k : Int) → (readR p bs k ai 64).1 = 1 := fun h => by rw [h]; exact readR_end p bs k
            generalize readR p bs k ai 64 = R at hG hR hRl hRe
            obtain ⟨r1, r2⟩ := R
            simp only at hRl hRe
            have HG := Lib.hid hG
            have HR := Lib.hid hR
            have HRe := Lib.hid hRe
            clear hG hR hRe
            go_upto_region 25 with (go_at_call 20; refine (HG.out).mono ?_; rintro e w8 ⟨v7, t7, rfl, hown7, hb7⟩; obtain ⟨A7, c7, rfl, hn7, hm7, _, hr7⟩ := own_shape (n := r2.length) (xs := vb r2) hown7 (by unfold maxLen; omega))
            have hA8 := hA6.below hb7 hA6.lt
            have hD8 := hD.below hb7
            have hM8 := hM.frm (Frm.of_below hb7 []) (by simp) (by simp)
            have hown8 := own_keep hown6 hb7.block
            have z0 : w8.cell? ⟨ga, 0, none⟩ = some (.int .u8 (ak : Int)) := hA8.cell 0
            have z1 : w8.cell? ⟨ga, 1, none⟩ = some (.int .i64 ai) := hA8.cell 1
            have hsz8 := hb7.size
            clear d0 x1 x2
            go_upto_region 29 with (go_at_call 22; refine (HR.out w8 hM8).mono ?_; rintro e w9 ⟨A9, c9, rfl, hr9, rfl⟩)
            have hr9 : Rd w8 w8.heap.size A9 (vb r2) := hr9
            have hown7 : w8.ownsRow W6.heap.size t7 1 (.slice A7 r2.length c7) r2.length (vb r2) := hown7
            generalize hn7e : r2.length = n7 at *
            have Hn7 := Lib.hid hn7e
            clear hn7e
            have hs1 := run_string_rd (P := Try.prog) w8 32 9 5 Try.underlying32 Try.underlying5 Try.underlying9 n7 c7 r2 Hn7.out hr7
            have hs2 := run_string_rd (P := Try.prog) w8 32 9 5 Try.underlying32 Try.underlying5 Try.underlying9 n7 c9 r2 Hn7.out hr9
            clear hn7 hr7 hr9
            go_upto_if 140 with (fail)
            go_cut [17] (fun v17 wc => v17 = .int .i64 r1 ∧ w8 = wc)
            case first =>
              by_cases hke : ai = (k : Int)
              · have hke' : (ai == (k : Int)) = true := beq_iff_eq.2 hke
                have hr1 : r1 = 1 := HRe.out hke
                clear hke
                go_wp2
                go_meet
                exact ⟨by rw [hr1], rfl⟩
              · have hke' : (ai == (k : Int)) = false := beq_eq_false_iff_ne.2 hke
                clear hke
                go_wp2
                go_meet
                exact ⟨rfl, rfl⟩
            obtain ⟨rfl, rfl⟩ := hcut
            go_wp2_with fail
            go_loopw [153] (fun iv wv => ∃ (k' : Nat) (lb : List UInt8), k' ≤ n7 ∧ iv = .int .i64 (k' : Int) ∧ Hid (lb.length = n7) ∧ wv.ownsRow W6.heap.size t7 1 (.slice A7 n7 c7) n7 (vb lb) ∧ Frm w8 wv (Value.slice A7 n7 c7).ownBlock.toList) (fun iv _ => n7 - (intOf iv).toNat)
            case atStart => exact ⟨0, r2, Nat.zero_le _, rfl, Hn7, hown7, Frm.refl _ _⟩
            case round =>
              obtain ⟨j, lb, hj, rfl, HL, hown, hfr⟩ := hrel
              by_cases hlt2 : j < n7
              · obtain ⟨gx, capx, hvx, hgbx, hglx⟩ := hown.form (by omega)
                simp only [Value.slice.injEq, true_and] at hvx
                obtain ⟨rfl, rfl⟩ := hvx
                have hkl : j < lb.length := by have := HL.out; omega
                have hcell := (hown.cellAt j (by omega)).trans (vb_get lb j hkl)
                have hfree := hown.frozenAt j
                obtain ⟨c', hc'⟩ := xor255 lb[j]
                go_wp2_with fail
                have hst := hown.stored j (.int .u8 (c'.toNat : Int))
                have hvs : (vb lb).set j (.int .u8 (c'.toNat : Int)) = vb (lb.set j c') := by simp [vb, List.map_set]
                rw [hvs] at hst
                go_roundw
                case rel => exact ⟨j + 1, lb.set j c', by omega, by go_num, by show _ = _; rw [List.length_set]; exact HL.out, hst.1, hfr.grown hst.2 (fun g' hg' => .inl (by simpa [Value.ownBlock] using hg'.symm))⟩
                case measure => simp [intOf]; omega
              · go_wp2_with fail
                have hbl : ∀ g' ∈ (Value.slice A7 n7 c7).ownBlock.toList, W6.heap.size ≤ g' := fun g' hg' => (hown.lt g' (by simpa using hg')).1
                have q1 := hD.str.lt
                have q2 := hD.pow.1.lt
                have q3 := hD.sec.lt
                have q4 := hM.str.lt
                have q5 := hM.dat.lt
                have hnm : ∀ x, x < W6.heap.size → x ∉ (Value.slice A7 n7 c7).ownBlock.toList := fun x hx hm => by have := hbl x hm; omega
                go_meet
                refine ⟨rfl, Lib.hid ⟨p, bs, gs', gb', hD8.frm hfr (hnm _ q1) (hnm _ q2) (hnm _ q3), hM8.frm hfr (hnm _ q4) (hnm _ q5), hgs', hgb', nfo⟩, Lib.hid ⟨al, own_frm hown8 hfr (fun a ha => hnm _ (hown6.lt a.block (by rw [ha]; rfl)).2), Hm.out⟩, (below_tr hb6 hb7).trans (hfr.below (fun g' hg' => Nat.le_trans hsz6 (hbl g' hg')) (below_tr hb6 hb7).size)⟩
          --]b1
        ·
          --[b2
          as_aux_lemma =>
            go_upto_region 39 with (fail)
            haveI : Nonempty (Wof fun W => W.cell? ⟨ga, 1, none⟩ = some (.int .i64 ai) ∧ W.cell? ⟨ga, 3, none⟩ = some (.slice aA m ac)) := ⟨⟨W6, hA6.cell 1, hA6.cell 3⟩⟩
            have f1 : ∀ u : Wof fun W => W.cell? ⟨ga, 1, none⟩ = some (.int .i64 ai) ∧ W.cell? ⟨ga, 3, none⟩ = some (.slice aA m ac), u.1.cell? ⟨ga, 1, none⟩ = some (.int .i64 ai) := fun u => u.2.1
            have f3 : ∀ u : Wof fun W => W.cell? ⟨ga, 1, none⟩ = some (.int .i64 ai) ∧ W.cell? ⟨ga, 3, none⟩ = some (.slice aA m ac), u.1.cell? ⟨ga, 3, none⟩ = some (.slice aA m ac) := fun u => u.2.2
            refine wp_region_pcs [.reads [0, 1, 3, 5, 6, 8, 2, 7, 9], .write 4, .write 10, .reads [11]] (fun W => ∃ u : Wof fun W => W.cell? ⟨ga, 1, none⟩ = some (.int .i64 ai) ∧ W.cell? ⟨ga, 3, none⟩ = some (.slice aA m ac), W = u.1) (by kernel_rfl) (by kernel_rfl) (by kernel_rfl) (by kernel_rfl) ⟨⟨W6.drew, hA6.cell 1, hA6.cell 3⟩, rfl⟩ ?_
            refine wpPcs_reads (by simp only [List.filterMap_cons, List.filterMap_nil, List.getElem?_toArray, List.getElem?_cons_succ, List.getElem?_cons_zero]; rfl) ?_
            intro K0 hK0
            refine (show wpQuiet _ _ _ _ (_ :: _ :: _ :: _ :: _ :: _ :: _ :: _ :: _ :: []) _ from ?_)
            repeat (go_big_quiet_step (fail))
            refine wpQuiet_nil ?_
            refine hK0 _ ?_
            clear hK0 K0
            refine wpPcs_write (by simp only [List.getElem?_toArray, List.getElem?_cons_succ, List.getElem?_cons_zero]; rfl) ?_
            intro K hK
            go_simp
            refine (dall_any W6.drew g pg gs' k p bs (hD.frm (Frm.refl W6 []).drew (by simp) (by simp) (by simp)) ai hi' Ao m co al Hm.out hcap6 hmax6 (by omega) hro6 nf2).mono ?_
            rintro e w7 ⟨rfl, hD7, hF7⟩
            go_simp
            have hA7 := (hA6.drewN 1).frm hF7 (by simp; omega)
            refine hK (fun W => ∃ u : Wof fun W => W.cell? ⟨ga, 1, none⟩ = some (.int .i64 ai) ∧ W.cell? ⟨ga, 3, none⟩ = some (.slice aA m ac), W = u.1) _ _ (fun W h => h) ⟨⟨w7, hA7.cell 1, hA7.cell 3⟩, rfl⟩ ?_
            clear hK K
            refine wpPcs_write (by simp only [List.getElem?_toArray, List.getElem?_cons_succ, List.getElem?_cons_zero]; rfl) ?_
            intro K hK
            go_simp
            have hF67 : Frm W6 w7 [pg, gs'] := ((Frm.refl W6 [pg, gs']).drew).trans hF7
            have hM7 := hM.frm hF67 (by simp; omega) (by simp; omega)
            refine (mall_any w7 gm gb' k p bs hM7 ai aA m ac al Hm.out hcap1 hcap2 (by omega) ((hra6.frm hF67 hsz6 (by intro x hx; simp at hx; omega)).mono (Nat.le_trans hsz6 hF67.size)) nfa).mono ?_
            rintro e w8 ⟨rfl, hM8, hF8⟩
            go_simp
            have hA8 := hA7.frm hF8 (by simp; omega)
            have hD8 := hD7.frm hF8 (by simp; omega) (by simp; omega) (by simp; omega)
            have hF68 : Frm W6 w8 [pg, gs', gm, gb'] := (hF67.sub (by simp)).tr hF8 (by simp)
            refine hK (fun W => ∃ u : Wof fun W => W.cell? ⟨ga, 1, none⟩ = some (.int .i64 ai) ∧ W.cell? ⟨ga, 3, none⟩ = some (.slice aA m ac), W = u.1) _ _ (fun W h => h) ⟨⟨w8, hA8.cell 1, hA8.cell 3⟩, rfl⟩ ?_
            clear hK K
            generalize allR p bs k ai al = R at *
            obtain ⟨r1, r2, r3⟩ := R
            simp only at hD8 hM8 ⊢
            refine wpPcs_reads (by simp only [List.filterMap_cons, List.filterMap_nil, List.getElem?_toArray, List.getElem?_cons_succ, List.getElem?_cons_zero]; rfl) ?_
            intro K0 hK0
            refine (show wpQuiet _ _ _ _ (_ :: []) _ from ?_)
            repeat (go_big_quiet_step (fail))
            refine wpQuiet_nil ?_
            refine hK0 _ ?_
            clear hK0 K0
            refine wpPcs_nil ?_
            go_wp2
            go_meet
            refine ⟨rfl, Lib.hid ⟨_, _, _, _, hD8, hM8, hgs', hgb', nfo⟩, Lib.hid ⟨al, ?_, Hm.out⟩, hb6.trans (hF68.below (by intro x hx; simp at hx; omega) hb6.size)⟩
            exact own_frm hown6 hF68 nf
          --]b2
        ·
          --[b3
          as_aux_lemma =>
            have x1 : W6.cell? ⟨ga, 1, none⟩ = some (.int .i64 ai) := hA6.cell 1
            have x2 : W6.cell? ⟨ga, 2, none⟩ = some (.int .i64 az) := hA6.cell 2
            have hbl : bs.length ≤ 576 := by have := hD.len; omega
            have hG := dget_any W6 g pg gs' k p bs hD ai
            rw [getR_eq] at hG
            have hR := fun (W : World) (h : Md W gm gb' k p bs) => mread_any W gm gb' k p bs h ai az
            have hG2 := fun (W : World) (h : Dk W g pg gs' k p bs) => dgetall_any W g pg gs' k p bs h ai az hi'
            have hRl : (readR p bs k ai az).2.length ≤ 576 := Nat.le_trans (readR_len p bs k ai az) hbl
            generalize readR p bs k ai az = R at hG2 hR hRl
            obtain ⟨r1, r2⟩ := R
            simp only at hRl
            have HG := Lib.hid hG
            have HG2 := Lib.hid hG2
            have HR := Lib.hid hR
            clear hG hR hG2
            go_upto_region 25 with (go_at_call 20; refine (HG.out).mono ?_; rintro e w7 ⟨v6, t6, rfl, _, hb67⟩)
            have hA7 := hA6.below hb67 hA6.lt
            have y0 : w7.cell? ⟨ga, 0, none⟩ = some (.int .u8 (ak : Int)) := hA7.cell 0
            have y1 : w7.cell? ⟨ga, 1, none⟩ = some (.int .i64 ai) := hA7.cell 1
            have hD7 := hD.below hb67
            clear d0 x1 x2
            go_upto_region 28 with (go_at_call 21; refine (HG2.out w7 hD7).mono ?_; rintro e w8 ⟨v7, t7, rfl, hown7', hb78⟩; obtain ⟨A7, c7, rfl, hn7, hm7, _, hr7⟩ := own_shape (n := r2.length) (xs := vb r2) hown7' (by unfold maxLen; omega))
            clear y0 y1
            have hb7 := below_tr hb67 hb78
            have hown7 : w8.ownsRow W6.heap.size t7 1 (.slice A7 r2.length c7) r2.length (vb r2) := own_mono hown7' hb67.size
            have hA8 := hA6.below hb7 hA6.lt
            have hD8 := hD.below hb7
            have hM8 := hM.frm (Frm.of_below hb7 []) (by simp) (by simp)
            have hown8 := own_keep hown6 hb7.block
            have z0 : w8.cell? ⟨ga, 0, none⟩ = some (.int .u8 (ak : Int)) := hA8.cell 0
            have z1 : w8.cell? ⟨ga, 1, none⟩ = some (.int .i64 ai) := hA8.cell 1
            have hsz8 := hb7.size
            go_upto_region 29 with (go_at_call 22; refine (HR.out w8 hM8).mono ?_; rintro e w9 ⟨A9, c9, rfl, hr9, rfl⟩)
            have hr9 : Rd w8 w8.heap.size A9 (vb r2) := hr9
            have hown7 : w8.ownsRow W6.heap.size t7 1 (.slice A7 r2.length c7) r2.length (vb r2) := hown7
            generalize hn7e : r2.length = n7 at *
            have Hn7 := Lib.hid hn7e
            clear hn7e
            have hs1 := run_string_rd (P := Try.prog) w8 32 9 5 Try.underlying32 Try.underlying5 Try.underlying9 n7 c7 r2 Hn7.out hr7
            have hs2 := run_string_rd (P := Try.prog) w8 32 9 5 Try.underlying32 Try.underlying5 Try.underlying9 n7 c9 r2 Hn7.out hr9
            clear hn7 hr7 hr9
            go_wp2_with fail
            go_loopw [153] (fun iv wv => ∃ (k' : Nat) (lb : List UInt8), k' ≤ n7 ∧ iv = .int .i64 (k' : Int) ∧ Hid (lb.length = n7) ∧ wv.ownsRow W6.heap.size t7 1 (.slice A7 n7 c7) n7 (vb lb) ∧ Frm w8 wv (Value.slice A7 n7 c7).ownBlock.toList) (fun iv _ => n7 - (intOf iv).toNat)
            case atStart => exact ⟨0, r2, Nat.zero_le _, rfl, Hn7, hown7, Frm.refl _ _⟩
            case round =>
              obtain ⟨j, lb, hj, rfl, HL, hown, hfr⟩ := hrel
              by_cases hlt2 : j < n7
              · obtain ⟨gx, capx, hvx, hgbx, hglx⟩ := hown.form (by omega)
                simp only [Value.slice.injEq, true_and] at hvx
                obtain ⟨rfl, rfl⟩ := hvx
                have hkl : j < lb.length := by have := HL.out; omega
                have hcell := (hown.cellAt j (by omega)).trans (vb_get lb j hkl)
                have hfree := hown.frozenAt j
                obtain ⟨c', hc'⟩ := xor255 lb[j]
                go_wp2_with fail
                have hst := hown.stored j (.int .u8 (c'.toNat : Int))
                have hvs : (vb lb).set j (.int .u8 (c'.toNat : Int)) = vb (lb.set j c') := by simp [vb, List.map_set]
                rw [hvs] at hst
                go_roundw
                case rel => exact ⟨j + 1, lb.set j c', by omega, by go_num, by show _ = _; rw [List.length_set]; exact HL.out, hst.1, hfr.grown hst.2 (fun g' hg' => .inl (by simpa [Value.ownBlock] using hg'.symm))⟩
                case measure => simp [intOf]; omega
              · go_wp2_with fail
                have hbl : ∀ g' ∈ (Value.slice A7 n7 c7).ownBlock.toList, W6.heap.size ≤ g' := fun g' hg' => (hown.lt g' (by simpa using hg')).1
                have q1 := hD.str.lt
                have q2 := hD.pow.1.lt
                have q3 := hD.sec.lt
                have q4 := hM.str.lt
                have q5 := hM.dat.lt
                have hnm : ∀ x, x < W6.heap.size → x ∉ (Value.slice A7 n7 c7).ownBlock.toList := fun x hx hm => by have := hbl x hm; omega
                go_meet
                refine ⟨rfl, Lib.hid ⟨p, bs, gs', gb', hD8.frm hfr (hnm _ q1) (hnm _ q2) (hnm _ q3), hM8.frm hfr (hnm _ q4) (hnm _ q5), hgs', hgb', nfo⟩, Lib.hid ⟨al, own_frm hown8 hfr (fun a ha => hnm _ (hown6.lt a.block (by rw [ha]; rfl)).2), Hm.out⟩, (below_tr hb6 hb7).trans (hfr.below (fun g' hg' => Nat.le_trans hsz6 (hbl g' hg')) (below_tr hb6 hb7).size)⟩
          --]b3
        ·
          --[b4
          as_aux_lemma =>
            have x1 : W6.cell? ⟨ga, 1, none⟩ = some (.int .i64 ai) := hA6.cell 1
            have x2 : W6.cell? ⟨ga, 2, none⟩ = some (.int .i64 az) := hA6.cell 2
            go_upto_region 43 with (go_at_call 25; refine (pow_plan _ pg p ai az hD.pow hi').mono ?_; rintro e w7 ⟨rfl, hp7, hF7, _⟩)
            have hA7 := hA6.frm hF7 (by simpa using ne7)
            have hM7 := hM.frm hF7 (by simpa using Ne.symm ne3) (by simpa using Ne.symm ne4)
            have hs7 := hD.str.frm hF7 (by simpa using hD.str.ne_ hD.pow.1 (by decide))
            have hb7 := hD.sec.frm hF7 (by simpa using hD.sec.ne_ hD.pow.1 (by decide))
            have y1 : w7.cell? ⟨ga, 1, none⟩ = some (.int .i64 ai) := hA7.cell 1
            have y2 : w7.cell? ⟨ga, 2, none⟩ = some (.int .i64 az) := hA7.cell 2
            have z2 : w7.cell? ⟨gm, 2, none⟩ = some (.int .i64 (plN p)) := hM7.str.cell 2
            have z3 : w7.cell? ⟨gm, 3, none⟩ = some (.int .i64 p.torn) := hM7.str.cell 3
            have v2 : w7.frozen? ⟨gm, 2, none⟩ = false := hM7.str.free 2
            have v3 : w7.frozen? ⟨gm, 3, none⟩ = false := hM7.str.free 3
            clear x1 x2
            go_region
            all_goals
              go_wp2
              go_meet
              have hF78 : Frm w7 ((w7.setCell ⟨gm, 2, none⟩ (.int .i64 (max ai (-1)))).setCell ⟨gm, 3, none⟩ (.int .i64 az)).drew [gm] := (((Frm.refl w7 [gm]).put (.inl (by simp)) _).put (.inl (by simp)) _).drew
              have hF68 : Frm W6 ((w7.setCell ⟨gm, 2, none⟩ (.int .i64 (max ai (-1)))).setCell ⟨gm, 3, none⟩ (.int .i64 az)).drew [pg, gm] := (hF7.sub (by simp)).tr hF78 (by simp)
              have hs8 := (hM7.str.put 2 (.int .i64 (max ai (-1)))).put 3 (.int .i64 az)
              have hne : gm ≠ gb' := hM.str.ne_ hM.dat (by decide)
              refine ⟨rfl, Lib.hid ⟨p.planned ai az, bs, gs', gb', ⟨hs7.frm hF78 (by simpa using ne1), hb7.frm hF78 (by simpa using ne5), ⟨hp7.1.frm hF78 (by simpa using ne3), hp7.2⟩, hD.len, hD.n1, hD.n2⟩, ⟨?_, hM7.dat.frm hF78 (by simpa using Ne.symm hne), pos_planned p ai az hi', hD.len, hD.n1, hD.n2⟩, hgs', hgb', nfo⟩, Lib.hid ⟨al, own_frm hown6 hF68 (fun a ha => by have := nf a ha; simp at this ⊢; omega), Hm.out⟩, hb6.trans (hF68.below (by intro x hx; simp at hx; omega) hb6.size)⟩
              rw [plN_planned]
              exact hs8
          --]b4
        ·
          --[b5
          as_aux_lemma =>
            have x0 : W6.cell? ⟨g, 0, none⟩ = some (.pointer (some ⟨pg, 0, none⟩)) := hD.str.cell 0
            go_upto_region 46 with (go_at_call 26; refine (pow_up _ pg p hD.pow).mono ?_; rintro e w7 ⟨rfl, hp7, hF7, _⟩)
            have hM7 := hM.frm hF7 (by simpa using Ne.symm ne3) (by simpa using Ne.symm ne4)
            have hs7 := hD.str.frm hF7 (by simpa using hD.str.ne_ hD.pow.1 (by decide))
            have hb7 := hD.sec.frm hF7 (by simpa using hD.sec.ne_ hD.pow.1 (by decide))
            have z1 : w7.cell? ⟨gm, 1, none⟩ = some (.bool (!p.off)) := hM7.str.cell 1
            have z2 : w7.cell? ⟨gm, 2, none⟩ = some (.int .i64 (plN p)) := hM7.str.cell 2
            have v1 : w7.frozen? ⟨gm, 1, none⟩ = false := hM7.str.free 1
            have v2 : w7.frozen? ⟨gm, 2, none⟩ = false := hM7.str.free 2
            clear x0
            go_wp2
            go_meet
            have hF78 : Frm w7 ((w7.setCell ⟨gm, 1, none⟩ (.bool true)).setCell ⟨gm, 2, none⟩ (.int .i64 (-1))) [gm] := ((Frm.refl w7 [gm]).put (.inl (by simp)) _).put (.inl (by simp)) _
            have hF68 : Frm W6 ((w7.setCell ⟨gm, 1, none⟩ (.bool true)).setCell ⟨gm, 2, none⟩ (.int .i64 (-1))) [pg, gm] := (hF7.sub (by simp)).tr hF78 (by simp)
            have hs8 := (hM7.str.put 1 (.bool true)).put 2 (.int .i64 (-1))
            have hne : gm ≠ gb' := hM.str.ne_ hM.dat (by decide)
            exact ⟨rfl, Lib.hid ⟨p.up, bs, gs', gb', ⟨hs7.frm hF78 (by simpa using ne1), hb7.frm hF78 (by simpa using ne5), ⟨hp7.1.frm hF78 (by simpa using ne3), hp7.2⟩, hD.len, hD.n1, hD.n2⟩, ⟨hs8, hM7.dat.frm hF78 (by simpa using Ne.symm hne), ⟨fun h => by simp [PowS.up] at h, hM.pos.2⟩, hD.len, hD.n1, hD.n2⟩, hgs', hgb', nfo⟩, Lib.hid ⟨al, own_frm hown6 hF68 (fun a ha => by have := nf a ha; simp at this ⊢; omega), Hm.out⟩, hb6.trans (hF68.below (by intro x hx; simp at hx; omega) hb6.size)⟩
          --]b5
        ·
          --[b6
          as_aux_lemma =>
            go_upto_region 17 with (go_at_call 27; refine (derase_any _ g pg gs' k p bs hD).mono ?_; rintro e w7 ⟨rfl, hD7, hF7⟩)
            have hM7 := hM.frm hF7 (by simpa using Ne.symm ne1) (by simpa using Ne.symm ne2)
            obtain ⟨Z, hZ⟩ : ∃ Z, Z = (vb (List.replicate (64 * k) 0)).toArray := ⟨_, rfl⟩
            have HZ := Lib.hid hZ
            clear hZ
            have hmade6 : madeCells (Value.int .u8 0).cells (64 * k * 1) = Z := by
              rw [HZ.out, Nat.mul_one]
              show madeCells #[.int .u8 0] (64 * k) = _
              rw [made_one]
              congr 1
              simp [vb]
            have z0 : (w7.alloc (.cells Z 5)).cell? ⟨gm, 0, none⟩ = some (.slice (some ⟨gb', 0, none⟩) (64 * k) (64 * k)) := (hM7.str.alloc _).cell 0
            have v0 : (w7.alloc (.cells Z 5)).frozen? ⟨gm, 0, none⟩ = false := (hM7.str.alloc _).free 0
            go_wp2_with (refine wpList_make_cs w7 rfl _ _ _ rfl _ _ 1 1 hel .i64 .i64 _ _ (64 * k) (64 * k) rfl rfl (by simp) (by simp) (Nat.le_refl _) (by omega) (by omega) Z hmade6 ?_)
            go_wp2
            try go_meet
            have hne : gm ≠ gb' := hM.str.ne_ hM.dat (by decide)
            have hs8 := (hM7.str.alloc (.cells Z 5)).put 0 (.slice (some ⟨w7.heap.size, 0, none⟩) (64 * k) (64 * k))
            have hlg := hM7.str.lt
            have hF78 : Frm w7 ((w7.alloc (.cells Z 5)).setCell ⟨gm, 0, none⟩ (.slice (some ⟨w7.heap.size, 0, none⟩) (64 * k) (64 * k))) [gm] := ((Frm.refl w7 [gm]).alloc _).put (.inl (by simp)) _
            have hbn : Bk ((w7.alloc (.cells Z 5)).setCell ⟨gm, 0, none⟩ (.slice (some ⟨w7.heap.size, 0, none⟩) (64 * k) (64 * k))) w7.heap.size 5 (vb (List.replicate (64 * k) 0)).toArray := by
              have hb := Bk.new w7 5 Z
              rw [HZ.out] at hb ⊢
              exact hb.far (by simp; omega) _
            have hF68 := (hF7.sub (G := [g, gm]) (by simp)).tr hF78 (by simp)
            refine ⟨rfl, Lib.hid ⟨p, List.replicate (64 * k) 0, W6.heap.size, w7.heap.size, hD7.frm hF78 (by simpa using ne1) (by simpa using ne3) (by have := hM.str.lt; simp; omega), ⟨hs8, hbn, hM.pos, by rw [List.length_replicate], hD.n1, hD.n2⟩, ?_, ?_, ?_⟩, Lib.hid ⟨al, own_frm hown6 hF68 (fun a ha => by have := nf a ha; have := hlo6 a ha; simp at *; omega), Hm.out⟩, hb6.trans (hF68.below (by intro x hx; simp at hx; omega) hb6.size)⟩
            · exact hb6.size
            · exact Nat.le_trans hb6.size hF7.size
            · intro a ha
              have := nfo a ha
              have hlt : a.block < W6.heap.size := (hown6.lt a.block (by rw [ha]; rfl)).2
              have := hF7.size
              omega
          --]b6
      obtain ⟨rfl, HBc, Hown, hbc⟩ := hcut
      have hn9 : (m : Int) ≤ 900 := by omega
      clear Hm hlo6 hcap6 hmax6 hA6 hown6 hF06 hb6 hD hM d0 h7 HDr HMr hrda hrd
      go_wp2_with fail
      --[x
      go_loopw [211] (fun iv wv => ∃ (k' : Nat) (lb : List UInt8), k' ≤ m ∧ iv = .int .i64 (k' : Int) ∧ Hid (lb.length = m) ∧ wv.ownsRow ga 5 1 (.slice Ao m co) m (vb lb) ∧ Frm wc wv (Value.slice Ao m co).ownBlock.toList) (fun iv _ => m - (intOf iv).toNat)
      case atStart =>
        obtain ⟨lb, h1, h2⟩ := Hown.out
        exact ⟨0, lb, Nat.zero_le _, rfl, Lib.hid h2, h1, Frm.refl _ _⟩
      case round =>
        obtain ⟨j, lb, hj, rfl, HL, hown, hfr⟩ := hrel
        by_cases hlt2 : j < m
        · obtain ⟨gx, capx, hvx, hgbx, hglx⟩ := hown.form (by omega)
          simp only [Value.slice.injEq, true_and] at hvx
          obtain ⟨rfl, rfl⟩ := hvx
          have hkl : j < lb.length := by have := HL.out; omega
          have hcell := (hown.cellAt j (by omega)).trans (vb_get lb j hkl)
          have hfree := hown.frozenAt j
          obtain ⟨c', hc'⟩ := xor255 lb[j]
          go_wp2_with fail
          have hst := hown.stored j (.int .u8 (c'.toNat : Int))
          have hvs : (vb lb).set j (.int .u8 (c'.toNat : Int)) = vb (lb.set j c') := by simp [vb, List.map_set]
          rw [hvs] at hst
          go_roundw
          case rel => exact ⟨j + 1, lb.set j c', by omega, by go_num, by show _ = _; rw [List.length_set]; exact HL.out, hst.1, hfr.grown hst.2 (fun g' hg' => .inl (by simpa [Value.ownBlock] using hg'.symm))⟩
          case measure => simp [intOf]; omega
        · go_wp2_with fail
          have hga2 : w.heap.size ≤ ga := hga
          have hbl : ∀ g' ∈ (Value.slice Ao m co).ownBlock.toList, w.heap.size ≤ g' := fun g' hg' => by
            have := (hown.lt g' (by simpa using hg')).1
            omega
          go_roundw
          case rel => exact ⟨q + 1, by omega, by go_num, Lib.hid (HBc.out.frm hfr), hbc.trans (hfr.below hbl hbc.size)⟩
          case measure => simp [intOf]; omega
      --]x
    · 
      --[y
      obtain ⟨p, bs, gs', gb', hDr, hMr, hgs', hgb'⟩ := HB.out
      have x0 : wr.cell? ⟨g, 0, none⟩ = some (.pointer (some ⟨pg, 0, none⟩)) := hDr.str.cell 0
      have ne3 : pg ≠ gm := hDr.pow.1.ne_ hMr.str (by decide)
      have ne4 : pg ≠ gb' := hDr.pow.1.ne_ hMr.dat (by decide)
      go_upto_region 54 with (go_at_call 26; refine (pow_up _ pg p hDr.pow).mono ?_; rintro e w7 ⟨rfl, hp7, hF7, _⟩)
      have hD7 : Dk w7 g pg gs' k p.up bs := ⟨hDr.str.frm hF7 (by simpa using hDr.str.ne_ hDr.pow.1 (by decide)), hDr.sec.frm hF7 (by simpa using hDr.sec.ne_ hDr.pow.1 (by decide)), ⟨hp7.1, hp7.2⟩, hDr.len, hDr.n1, hDr.n2⟩
      have hM7 := hMr.frm hF7 (by simpa using Ne.symm ne3) (by simpa using Ne.symm ne4)
      have hb7 : Below w.heap.size w w7 := hbe.trans (hF7.below (by simpa using hB1) hbe.size)
      clear x0
      have hfull : (bs.drop (64 * 0)).take (64 * k) = bs := by rw [Nat.mul_zero, List.drop_zero, ← hDr.len]; exact List.take_length
      have hx := dall_ok w7 g pg gs' k p.up bs hD7 0 (64 * k) (by omega) (by omega) rfl
      rw [hfull] at hx
      have hv64 : ((64 * k : Nat) : Int) = 64 * (k : Int) := by omega
      rw [hv64] at hx
      have Hx := Lib.hid hx
      clear hx hfull hv64
      go_upto_region 55 with (go_at_call 21; refine (Hx.out).mono ?_; rintro e w8 ⟨v8, rfl, hown8, hb8⟩)
      have hM8 := hM7.frm (Frm.of_below hb8 []) (by simp) (by simp)
      have hlen8 : bs.length = 64 * k := hMr.len
      obtain ⟨A8, c8, rfl, hn8, hm8, _, hr8⟩ := own_shape hown8 (by unfold maxLen; omega)
      have z0 : w8.drew.cell? ⟨gm, 0, none⟩ = some (.slice (some ⟨gb', 0, none⟩) (64 * k) (64 * k)) := (hM8.str.drewN 1).cell 0
      have hs1 := run_string_rd (P := Try.prog) w8.drew 32 9 5 Try.underlying32 Try.underlying5 Try.underlying9 bs.length c8 bs rfl (hr8.drewN 1)
      have hs2 := run_string_rd (P := Try.prog) w8.drew 32 9 5 Try.underlying32 Try.underlying5 Try.underlying9 (64 * k) (64 * k) bs hlen8 (Rd.of_bk_app (ys := []) (by rw [List.append_nil]; exact hM8.dat.drewN 1))
      haveI : Nonempty (Wof fun W => W = w8.drew) := ⟨⟨w8.drew, rfl⟩⟩
      have f0 : ∀ u : Wof fun W => W = w8.drew, u.1.cell? ⟨gm, 0, none⟩ = some (.slice (some ⟨gb', 0, none⟩) (64 * k) (64 * k)) := fun u => by rw [u.2]; exact z0
      have f1 := fun u : Wof fun W => W = w8.drew => (show (convert 32 9 (.slice A8 bs.length c8)).run Try.prog u.1 = .ok (.string ⟨bs.toArray⟩) u.1 by rw [u.2]; exact hs1)
      have f2 := fun u : Wof fun W => W = w8.drew => (show (convert 32 9 (.slice (some ⟨gb', 0, none⟩) (64 * k) (64 * k))).run Try.prog u.1 = .ok (.string ⟨bs.toArray⟩) u.1 by rw [u.2]; exact hs2)
      clear z0 hs1 hs2 hlen8
      refine wp_region_pcs [.reads [0, 1, 2, 3, 5, 4, 6, 7, 8, 9, 10, 11, 12]] (fun W => ∃ u : Wof fun W => W = w8.drew, W = u.1) (by kernel_rfl) (by kernel_rfl) (by kernel_rfl) (by kernel_rfl) ⟨⟨w8.drew, rfl⟩, rfl⟩ ?_
      refine wpPcs_reads (by simp only [List.filterMap_cons, List.filterMap_nil, List.getElem?_toArray, List.getElem?_cons_succ, List.getElem?_cons_zero]; rfl) ?_
      intro K0 hK0
      refine (show wpQuiet _ _ _ _ (_ :: _ :: _ :: _ :: _ :: _ :: _ :: _ :: _ :: _ :: _ :: _ :: _ :: []) _ from ?_)
      repeat (go_big_quiet_step (fail))
      refine wpQuiet_nil ?_
      refine hK0 _ ?_
      clear hK0 K0
      refine wpPcs_nil ?_
      go_wp2
      go_ret
      exact ⟨rfl, below_drN (hb7.trans (hb8.mono hb7.size)) 1⟩
      --]y
end Go.Proofs.Yteglbehjokldjaa
