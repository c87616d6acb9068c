/-
  The example of the chapter of layer 23 holds: 'alive' returns true.
-/
import Derived.Lib.SlBytesConst
import Derived.Test.YthnbgbocanpkjaaGreatRoutN
import Derived.Test.YthnbgbocanpkjaaGreatRoutD
import Derived.Test.YthnbgbocanpkjaaGreatWirB
namespace Go.Proofs.YthnbgbocanpkjaaGreat
open Go.RowKit Go.Lib
theorem Rd.block {w : World} {g sz n : Nat} {t : TypeId} {cs : Array Value} (h : w.heap[g]? = some (.cells cs t (0, 0))) (hn : cs.size = n * sz) : Rd w w.heap.size sz (some ⟨g, 0, none⟩) n cs.toList :=
  ⟨by simpa using hn, fun _ => ⟨g, 0, rfl, (Array.getElem?_eq_some_iff.1 h).1, fun j u hu => by
    have := World.news_of_block h j u hu
    rwa [addr_add] at this⟩⟩
def aC : Cfg := ⟨0, [⟨1, ⟨#[97]⟩, 0, 0⟩], [], [], [⟨1, 1, ⟨#[120]⟩, true, false, 8⟩, ⟨2, 1, ⟨#[121]⟩, false, false, 8⟩], [⟨1, 1, [2]⟩]⟩
theorem aC_ok : aC.ok := by
  refine ⟨by unfold wU64; decide, ?_, by simp [aC], by simp [aC], ?_, ?_⟩
  · intro p hp
    simp [aC] at hp
    subst hp
    exact ⟨by unfold wU16; decide, by show 1 ≤ _; unfold maxLen; omega, by unfold wU64; decide, by unfold wU64; decide⟩
  · intro p hp
    simp [aC] at hp
    rcases hp with rfl | rfl <;> exact ⟨by unfold wU16; decide, by unfold wU16; decide, by show 1 ≤ _; unfold maxLen; omega, by unfold wU32; decide⟩
  · intro p hp
    simp [aC] at hp
    subst hp
    exact ⟨by unfold wU16; decide, by unfold wU16; decide, by intro d hd; simp at hd; subst hd; unfold wU16; decide⟩
theorem aC_small : aC.small := by
  refine ⟨by show 5 ≤ BIG; unfold BIG; omega, ?_, ?_⟩
  · intro p hp
    simp [aC] at hp
    subst hp
    show 1 ≤ BIG; unfold BIG; omega
  · intro p hp
    simp [aC] at hp
    rcases hp with rfl | rfl <;> (show 1 ≤ BIG; unfold BIG; omega)
def aP : Obj := .cells #[.int .u16 1, .string ⟨#[97]⟩, .int .u64 0, .int .u64 0] 66
def aT : Obj := .cells #[.int .u16 1, .int .u16 1, .string ⟨#[120]⟩, .bool true, .bool false, .int .u32 8, .int .u16 2, .int .u16 1, .string ⟨#[121]⟩, .bool false, .bool false, .int .u32 8] 41
def aD : Obj := .cells #[.int .u16 2] 34
def aX (w : World) : Obj := .cells #[.int .u16 1, .int .u16 1, .slice (some ⟨w.heap.size + 1 + 1, 0, none⟩) 1 1] 64
def aW (w : World) : World := (((w.alloc aP).alloc aT).alloc aD).alloc (aX w)
theorem aW_size (w : World) : (aW w).heap.size = w.heap.size + 1 + 1 + 1 + 1 := by simp [aW]
theorem block_at {w : World} {cs : Array Value} {t : TypeId} {sz n g : Nat} (hg : w.heap.size = g) (hn : cs.size = n * sz) : Rd (w.alloc (.cells cs t)) (w.alloc (.cells cs t)).heap.size sz (some ⟨g, 0, none⟩) n cs.toList := by
  subst hg; exact Rd.block (heap_alloc_new w _) hn
theorem aR (w : World) : CfgR (aW w) (aW w).heap.size aC (some ⟨w.heap.size, 0, none⟩) none none (some ⟨w.heap.size + 1, 0, none⟩) (some ⟨w.heap.size + 1 + 1 + 1, 0, none⟩) 1 0 0 2 1 := by
  have h1 := (((block_at (w := w) (cs := #[.int .u16 1, .string ⟨#[97]⟩, .int .u64 0, .int .u64 0]) (t := 66) (sz := 4) (n := 1) rfl rfl).up (below_one _ aT)).up (below_one _ aD)).up (below_one _ (aX w))
  have h2 := ((block_at (w := w.alloc aP) (g := w.heap.size + 1) (cs := #[.int .u16 1, .int .u16 1, .string ⟨#[120]⟩, .bool true, .bool false, .int .u32 8, .int .u16 2, .int .u16 1, .string ⟨#[121]⟩, .bool false, .bool false, .int .u32 8]) (t := 41) (sz := 6) (n := 2) (by simp) rfl).up (below_one _ aD)).up (below_one _ (aX w))
  have h3 := (block_at (w := (w.alloc aP).alloc aT) (g := w.heap.size + 1 + 1) (cs := #[.int .u16 2]) (t := 34) (sz := 1) (n := 1) (by simp) rfl).up (below_one _ (aX w))
  have h4 := block_at (w := ((w.alloc aP).alloc aT).alloc aD) (g := w.heap.size + 1 + 1 + 1) (cs := #[.int .u16 1, .int .u16 1, .slice (some ⟨w.heap.size + 1 + 1, 0, none⟩) 1 1]) (t := 64) (sz := 3) (n := 1) (by simp) rfl
  exact ⟨h1, Rd.nil, Rd.nil, h2, ⟨_, ⟨[.int .u16 1, .int .u16 1, .slice (some ⟨w.heap.size + 1 + 1, 0, none⟩) 1 1], [], rfl, ⟨_, 1, rfl, Nat.le_refl _, by unfold maxLen; omega, h3⟩, rfl⟩, h4⟩, ⟨Nat.le_refl _, by unfold maxLen; omega⟩, ⟨Nat.le_refl _, by unfold maxLen; omega⟩, ⟨Nat.le_refl _, by unfold maxLen; omega⟩, ⟨Nat.le_refl _, by unfold maxLen; omega⟩, ⟨Nat.le_refl _, by unfold maxLen; omega⟩⟩
theorem aB (w : World) : Below w.heap.size w (aW w) := Below.then_ (Below.then_ (Below.then_ (below_one w aP) (below_one _ aT)) (below_one _ aD)) (below_one _ (aX w))
theorem aStart (w : World) : ∃ W4 W0 : World, W4.heap.size = w.heap.size + 1 + 1 + 1 + 1 ∧
    (aW w).alloc (.cells #[.int .u64 0, .slice (some ⟨w.heap.size, 0, none⟩) 1 1, .slice none 0 0, .slice none 0 0, .slice (some ⟨w.heap.size + 1, 0, none⟩) 2 2, .slice (some ⟨w.heap.size + 1 + 1 + 1, 0, none⟩) 1 1] 29) = W0 ∧
    St W4 W0 aC (some ⟨w.heap.size, 0, none⟩) none none (some ⟨w.heap.size + 1, 0, none⟩) (some ⟨w.heap.size + 1 + 1 + 1, 0, none⟩) 1 0 0 2 1 ∧ Below w.heap.size w W4 :=
  ⟨aW w, _, aW_size w, rfl, St.start (aR w) _, aB w⟩
theorem a_right : rightR aC = true := by decide
theorem a_route : routeOf aC 1 = [2] := by
  rw [route_some (x := ⟨1, 1, [2]⟩) rfl]; simp [sortD]
def aP2 : Prt := ⟨2, 1, ⟨#[121]⟩, false, false, 8⟩
theorem a_dests : destsOf aC 1 = [aP2] := by unfold destsOf; rw [a_route]; rfl
theorem a_code (m : Nat) : sendCode aC 1 m = if 8 < m then 11 else 0 := by
  unfold sendCode
  rw [a_route, show portOf aC 1 = some ⟨1, 1, ⟨#[120]⟩, true, false, 8⟩ from rfl]
  simp only [Bool.true_eq_false, if_false, List.length_singleton]
  by_cases h : 8 < m
  · rw [if_pos (by omega), if_pos h]
  · rw [if_neg (by omega), if_neg h, if_neg (by decide)]
/-- a message that nobody gets -/
theorem mSend_quiet (c : Cfg) (hr : RightR c) (hs : c.small) (hok : c.ok) (gr : Nat) (id : Int) (hid : wU16 id) (M : Option Addr) (m cm : Nat) (hm : m ≤ 4194304) (w : World) (hR : RtAt w w.heap.size gr c.norm) (v : Int) (hv : Hid (sendCode c id m = v)) :
    Calls Tryz.prog 14 #[.pointer (some ⟨gr, 0, none⟩), .int .u16 id, .slice M m cm, .nilFunc] w fun e w' => e = .returned (.int .i64 v) ∧ Below w.heap.size w w' :=
  mSend_nf c hr hs hok gr id hid M m cm hm (fun _ W => Below w.heap.size w W) w w hR ⟨fun _ _ _ h hb => Below.then_ h hb, fun _ _ h => h, fun _ p W _ h => (to_nil M m cm p W).mono fun _ _ ⟨h1, h2⟩ => ⟨h1, Below.then_ h h2⟩⟩ (Below.refl _ _) v hv
set_option maxRecDepth 100000 in
set_option maxHeartbeats 2000000 in
theorem alive1_ok (g : Nat) (A : Option Addr) (cp : Nat) (W : World) (hb : Blk W g 3 #[.int .i64 0]) :
    Calls Tryz.prog 32 #[prtV aP2, .slice A 2 cp, .pointer (some ⟨g, 0, none⟩)] W fun e V => e = .returned (.tuple #[]) ∧ V = (W.setCell ⟨g, 0, none⟩ (.int .i64 4)).alloc (.cells #[.int .u16 2, .int .u16 1, .string ⟨#[121]⟩, .bool false, .bool false, .int .u32 8] 41) := by
  have hz := hb.lt
  have q0 := hb.cell 0
  have f0 := hb.frozen 0
  simp at q0
  have hz2 : ¬ g = W.heap.size := by omega
  clear hb
  unfold aP2
  go_enter Tryz.func32, Tryz.ntmps32
  go_wp2
  go_end0
  exact ⟨rfl, rfl⟩
/-- how the example's deliveries stand -/
structure AJ (w0 : World) (g gm : Nat) (k : Nat) (W : World) : Prop where
  bel : Below w0.heap.size w0 W
  hg : w0.heap.size ≤ g
  cnt : Blk W g 3 #[.int .i64 ((4 * k : Nat) : Int)]
  m0 : W.cell? ⟨gm, 0, none⟩ = some (.int .u8 97)
  m1 : W.cell? ⟨gm, 1, none⟩ = some (.int .u8 98)
  gz : gm < W.heap.size
theorem AJ.up {w0 W V : World} {g gm k : Nat} (h : AJ w0 g gm k W) (hb : Below W.heap.size W V) : AJ w0 g gm k V :=
  ⟨h.bel.trans (hb.mono h.bel.size), h.hg, h.cnt.below hb h.cnt.lt, (hb.cell (p := ⟨gm, 0, none⟩) h.gz).trans h.m0, (hb.cell (p := ⟨gm, 1, none⟩) h.gz).trans h.m1, Nat.lt_of_lt_of_le h.gz hb.size⟩
theorem AJ.rd {w0 W : World} {g gm k : Nat} (h : AJ w0 g gm k W) : Rd W W.heap.size 1 (some ⟨gm, 0, none⟩) 2 (([97, 98] : List Int).map (Value.int .u8)) :=
  ⟨rfl, fun _ => ⟨gm, 0, rfl, h.gz, fun j u hu => by
    match j, hu with
    | 0, hu => cases hu; exact h.m0
    | 1, hu => cases hu; exact h.m1
    | k + 2, hu => simp at hu⟩⟩
theorem aDel (w0 : World) (g gm : Nat) (hgm : g ≠ gm) : DelT w0 (.func (.func 32) #[] #[.pointer (some ⟨g, 0, none⟩)]) (some ⟨gm, 0, none⟩) 2 2 (destsOf aC 1) (AJ w0 g gm) := by
  refine ⟨fun _ _ _ h hb => h.up hb, fun _ _ h => h.bel, fun k p W hk h => ?_⟩
  rw [a_dests] at hk
  obtain ⟨rfl, rfl⟩ : k = 0 ∧ aP2 = p := by
    match k, hk with
    | 0, hk => exact ⟨rfl, by simpa using hk⟩
    | k + 1, hk => simp at hk
  refine to_fn 32 _ (enters_of Tryz.func32 (by kernel_rfl) rfl) [97, 98] _ 2 (by decide) (fun e => by cases e) aP2 W h.rd _ fun V v hV ho => ?_
  obtain ⟨A, cp, rfl, _⟩ := own_form ho
  have h2 := h.up hV
  refine (alive1_ok g A cp V h2.cnt).mono ?_
  rintro e U ⟨rfl, rfl⟩
  refine ⟨rfl, ?_⟩
  have hc := h2.cnt.set_ 0 (.int .i64 4)
  have h3 : AJ w0 g gm 1 (V.setCell ⟨g, 0, none⟩ (.int .i64 4)) := ⟨h2.bel.setCell h2.hg _, h2.hg, by simpa using hc, (World.cell?_setCell_other _ _ _ _ (fun e => hgm (by injection e))).trans h2.m0, (World.cell?_setCell_other _ _ _ _ (fun e => hgm (by injection e))).trans h2.m1, by have := h2.gz; simpa using this⟩
  exact h3.up (below_one _ _)
theorem made9 (W : World) : (Instr.makeSlice 35 (.int .i64 9) (.int .i64 9)).run Tryz.prog W = .ok (.slice (some ⟨W.heap.size, 0, none⟩) 9 9) (W.alloc (.cells (madeCells (Value.int .u8 0).cells 9) 5)) := by
  obtain ⟨i, hi, h0, h1, h2⟩ := info_parts info_u8
  have := run_make (P := Tryz.prog) W 35 5 i (.int .u8 0) Tryz.underlying35 hi h0 .i64 .i64 9 9 (by decide) (by decide) (by rw [h2]; decide) (by decide)
  rw [h1] at this
  exact this
set_option maxRecDepth 100000 in
set_option maxHeartbeats 4000000 in
theorem alive_ok (w : World) : Calls Tryz.prog 10 #[] w fun e w' => e = .returned (.bool true) ∧ Below w.heap.size w w' := by
  obtain ⟨W4, W0, h4, hW, st, hb4⟩ := aStart w
  unfold aW aP aT aD aX at hW
  have ST0 := Lib.hid st
  have HW := Lib.hid hW
  have H4 := Lib.hid h4
  have HB4 := Lib.hid hb4
  have HR := Lib.hid a_right
  have HRR := Lib.hid (rightR_iff.1 a_right)
  have hmk := made9
  have kc := fun (w : World) (C : Array Value) (n c : Nat) => Lib.run_convert_bytes_const (P := Tryz.prog) w 35 5 C n c Tryz.underlying35 Tryz.underlying5
  clear hW st h4 hb4
  go_enter Tryz.func10, Tryz.ntmps10
  go_upto_region 2 with (fail)
  rw [HW.out, ← H4.out]
  obtain ⟨x0, x1, x2, x3, x4, x5, hz⟩ := ST0.out.cells
  go_wp2_with fail
  refine (newR_ok aC _ _ _ _ _ _ _ _ _ _ _ ST0.out.R aC_small aC_ok true HR).mono ?_
  rintro e w1 ⟨hb1, ⟨h0, _⟩ | ⟨_, gr, rfl, hrt⟩⟩
  · cases h0
  have HB1 := Lib.hid (Below.then_ HB4.out (ST0.out.up hb1).bel)
  have HRT := Lib.hid hrt
  clear hb1 x0 x1 x2 x3 x4 x5 hz hrt
  obtain ⟨W2, hW2⟩ : ∃ W2, w1.alloc (.cells #[.int .i64 0] 3) = W2 := ⟨_, rfl⟩
  obtain ⟨W3, hW3⟩ : ∃ W3, W2.alloc (.cells #[.int .u8 97, .int .u8 98] 5 (2, 3)) = W3 := ⟨_, rfl⟩
  have hj : AJ w1 w1.heap.size W2.heap.size 0 W3 := by
    have b1 : Below w1.heap.size w1 W2 := by rw [← hW2]; exact below_one _ _
    have b2 : Below W2.heap.size W2 W3 := by rw [← hW3]; exact below_one _ _
    have k1 : Blk W2 w1.heap.size 3 #[.int .i64 0] := by rw [← hW2]; exact Blk.new _ _ _
    exact ⟨Below.then_ b1 b2, Nat.le_refl _, k1.below b2 k1.lt, by rw [← hW3]; unfold World.cell?; rw [heap_alloc_new]; rfl, by rw [← hW3]; unfold World.cell?; rw [heap_alloc_new]; rfl, by rw [← hW3]; simp⟩
  have hne : w1.heap.size ≠ W2.heap.size := by rw [← hW2]; simp
  have HW2 := Lib.hid hW2
  have HW3 := Lib.hid hW3
  have HJ := Lib.hid hj
  have HD := Lib.hid (aDel w1 w1.heap.size W2.heap.size hne)
  have HC := Lib.hid (show sendCode aC 1 2 = 0 from a_code 2)
  have HC9 := Lib.hid (show sendCode aC 1 9 = 11 from a_code 9)
  clear hW2 hW3 hj hne
  go_upto_region 4 with (fail)
  rw [HW2.out]
  go_wp2_with fail
  rw [HW3.out]
  refine (mSend_fn aC HRR.out aC_small aC_ok gr 1 (by unfold wU16; decide) _ 2 2 (by decide) _ _ _ _ w1 W3 HRT.out HD.out HJ.out 0 HC).mono ?_
  rintro e w5 ⟨rfl, hj5⟩
  rw [if_pos rfl, a_dests] at hj5
  have HJ5 := Lib.hid (show AJ w1 w1.heap.size W2.heap.size 1 w5 from hj5)
  have HRT5 := Lib.hid (HRT.out.up HJ5.out.bel)
  clear hj5 HD HJ HW2 HW3
  go_wp2_with fail
  refine (mRoute_ok aC HRR.out aC_small gr 1 (by unfold wU16; decide) w5 HRT5.out).mono ?_
  rw [a_route]
  rintro e w6 ⟨v, rfl, hv, hb6⟩
  obtain ⟨RA, rc, rfl, _, _, hrd⟩ := own_form hv
  have HRD := Lib.hid (hrd.up (below_one w6 (.cells #[.int .u16 2] 34)))
  have HJ6 := Lib.hid (HJ5.out.up (Below.then_ hb6 (below_one w6 (.cells #[.int .u16 2] 34))))
  clear hv hrd hb6
  go_wp2_with fail
  refine (eqU_same [2] _ _ _ _ _ (by decide) HRD.out (one_newP w6 2 34)).mono ?_
  rintro e w7 ⟨rfl, hb7⟩
  have HJ7 := Lib.hid (HJ6.out.up hb7)
  have hg := HJ7.out.cnt.cell 0
  simp at hg
  have hgz := HJ7.out.cnt.lt
  have HRT8 := Lib.hid ((HRT.out.up HJ7.out.bel).up (below_one w7 (.cells (madeCells (Value.int .u8 0).cells 9) 5)))
  clear hb7
  go_wp2_with fail
  refine (mSend_quiet aC HRR.out aC_small aC_ok gr 1 (by unfold wU16; decide) _ 9 9 (by decide) _ HRT8.out 11 HC9).mono ?_
  rintro e w8 ⟨rfl, hb8⟩
  have HZ := Lib.hid (Below.then_ (Below.then_ (Below.then_ HB1.out HJ7.out.bel) (below_one w7 (.cells (madeCells (Value.int .u8 0).cells 9) 5))) hb8)
  clear hb8
  go_wp2
  go_ret
  exact ⟨rfl, HZ.out⟩
end Go.Proofs.YthnbgbocanpkjaaGreat
