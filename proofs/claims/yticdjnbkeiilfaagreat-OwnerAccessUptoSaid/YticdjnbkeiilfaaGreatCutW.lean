/-
  cut of the reference of layer 17, walked: the spans of a list without the numbers of a span.
-/
import Derived.BigQuiet
import Derived.Deep.RegionHeld3
import Derived.Deep.AppendLies
import Derived.Test.YticdjnbkeiilfaaGreatCutP
namespace Go.Proofs.YticdjnbkeiilfaaGreat
open Go.RowKit
attribute [local go_sem] ext_cell
theorem infoSpan14 : (Tryz.prog.info? 102).map (fun i => (i.zero, i.size, i.bytes)) = some (some (.agg #[.int .u64 0, .int .u64 0]), 2, 16) := by kernel_rfl
theorem rLast_val (x : Spn) (v : Int) (w : World) (hx : okS x) (hv : Hid (lastS x = v)) : Calls Tryz.prog 106 #[.agg #[.int .u64 x.lo, .int .u64 x.len]] w fun e w' => e = .returned (.int .u64 v) ∧ Below w.heap.size w w' := by
  have := rLast_ok x.lo x.len w hx
  rwa [show x.lo + x.len - 1 = v from hv.out] at this
theorem rMeet_valS (x s : Spn) (v : Bool) (w : World) (hx : okS x) (hs : okS s) (hv : Hid (meetS x s = v)) : Calls Tryz.prog 102 #[.agg #[.int .u64 x.lo, .int .u64 x.len], .agg #[.int .u64 s.lo, .int .u64 s.len]] w fun e w' => e = .returned (.bool v) ∧ Below w.heap.size w w' := by
  have := rMeet_ok x s w hx hs
  rwa [hv.out] at this
theorem at_appendC {P : Program} {ys : Nat → Option Bool} {dst : Option Tmp} {ty : TypeId} {pos : String} {af : Array Edge} {xs : Array Operand} {ts : Array TypeId} {a : Act} {w : World} {K : Act → World → Prop} {Q : Exit → Act → World → Prop} {E : Prop}
    (h : if Region.wanted { dst := dst, op := .call { callee := .builtin .append, args := xs, argTypes := ts }, type := ty, pos := pos, after := af, guard := none } ys = true then Oper.wp P { dst := dst, op := .call { callee := .builtin .append, args := xs, argTypes := ts }, type := ty, pos := pos, after := af, guard := none } a w K Q else E) :
    if Region.wanted { dst := dst, op := .call { callee := .builtin .append, args := xs, argTypes := ts }, type := ty, pos := pos, after := af, guard := none } ys = true then Oper.wp P { dst := dst, op := .call { callee := .builtin .append, args := xs, argTypes := ts }, type := ty, pos := pos, after := af, guard := none } a w K Q else E := h
/-- where a round of cut stands: the row so far, the boxes of the two spans -/
structure CutAt (w W : World) (g : Nat) (s x : Spn) (rows : List Spn) (v : Value) : Prop where
  own : W.ownsRow (w.heap.size + 1) 102 2 v rows.length (rows.flatMap Spn.cells)
  bel : Below w.heap.size w W
  s0 : W.cell? ⟨w.heap.size, 0, none⟩ = some (.int .u64 s.lo)
  s1 : W.cell? ⟨w.heap.size, 1, none⟩ = some (.int .u64 s.len)
  gz : w.heap.size < g
  x0 : W.cell? ⟨g, 0, none⟩ = some (.int .u64 x.lo)
  x1 : W.cell? ⟨g, 1, none⟩ = some (.int .u64 x.len)
  gl : g < W.heap.size
  ne : v.ownBlock ≠ some g
section
variable {w W V : World} {g : Nat} {s x : Spn} {rows : List Spn} {v : Value}
theorem CutAt.up (h : CutAt w W g s x rows v) (hb : Below W.heap.size W V) : CutAt w V g s x rows v := by
  have q : ∀ b o, b < W.heap.size → V.cell? ⟨b, o, none⟩ = W.cell? ⟨b, o, none⟩ := fun b o h => hb.cell (p := ⟨b, o, none⟩) h
  have hz := h.gz
  have hl := h.gl
  exact ⟨own_below h.own hb, h.bel.trans (hb.mono h.bel.size), (q _ _ (by omega)).trans h.s0, (q _ _ (by omega)).trans h.s1, hz, (q _ _ hl).trans h.x0, (q _ _ hl).trans h.x1, Nat.lt_of_lt_of_le hl hb.size, h.ne⟩
theorem CutAt.cells (h : CutAt w W g s x rows v) : W.cell? ⟨w.heap.size, 0, none⟩ = some (.int .u64 s.lo) ∧ W.cell? ⟨w.heap.size, 1, none⟩ = some (.int .u64 s.len) ∧ W.cell? ⟨g, 0, none⟩ = some (.int .u64 x.lo) ∧ W.cell? ⟨g, 1, none⟩ = some (.int .u64 x.len) := ⟨h.s0, h.s1, h.x0, h.x1⟩
theorem CutAt.app {g2 cap : Nat} {a b : Int} (h : CutAt w W g s x rows v) (hown : V.ownsRow (w.heap.size + 1) 102 2 (.slice (some ⟨g2, 0, none⟩) (rows.length + 1) cap) (rows.length + 1) (rows.flatMap Spn.cells ++ [.int .u64 a, .int .u64 b])) (hg : W.grownBy V v.ownBlock)
    (hat : v.ownBlock = some g2 ∨ g2 = W.heap.size) : CutAt w V g s x (rows ++ [⟨a, b⟩]) (.slice (some ⟨g2, 0, none⟩) (rows.length + 1) cap) := by
  have hz := h.gz
  have hl := h.gl
  have hlt := fun k e => own_lt0 h.own (g := k) e
  have q : ∀ b o, b < W.heap.size → v.ownBlock ≠ some b → V.cell? ⟨b, o, none⟩ = W.cell? ⟨b, o, none⟩ := fun b o h1 h2 => World.cell?_of_block (hg.block b h1 (fun e => h2 e.symm))
  have hn : v.ownBlock ≠ some w.heap.size := fun e => by have := (hlt _ e).1; omega
  refine ⟨by simpa [Spn.cells] using hown, h.bel.grown hg h.bel.size (fun k e => by have := (hlt _ e).1; omega), (q _ _ (by omega) hn).trans h.s0, (q _ _ (by omega) hn).trans h.s1, hz, (q _ _ hl h.ne).trans h.x0, (q _ _ hl h.ne).trans h.x1, Nat.lt_of_lt_of_le hl hg.size, ?_⟩
  intro e
  simp only [Value.ownBlock, Option.some.injEq] at e
  subst e
  rcases hat with e | e
  · exact h.ne e
  · omega
theorem CutAt.start (hO : W.ownsRow (w.heap.size + 1) 102 2 v rows.length (rows.flatMap Spn.cells)) (hB : Below w.heap.size w W) (s0 : W.cell? ⟨w.heap.size, 0, none⟩ = some (.int .u64 s.lo)) (s1 : W.cell? ⟨w.heap.size, 1, none⟩ = some (.int .u64 s.len)) (hz : w.heap.size < W.heap.size) (x : Spn) :
    ∃ V, W.alloc (.cells #[.int .u64 x.lo, .int .u64 x.len] 102) = V ∧ CutAt w V W.heap.size s x rows v := by
  have hb := below_one W (.cells #[.int .u64 x.lo, .int .u64 x.len] 102)
  have q : ∀ b o, b < W.heap.size → (W.alloc (.cells #[.int .u64 x.lo, .int .u64 x.len] 102)).cell? ⟨b, o, none⟩ = W.cell? ⟨b, o, none⟩ := fun b o h => hb.cell (p := ⟨b, o, none⟩) h
  refine ⟨_, rfl, own_below hO hb, hB.trans (hb.mono hB.size), (q _ _ hz).trans s0, (q _ _ hz).trans s1, hz, by simp, by simp, by simp, fun e => ?_⟩
  have := (own_lt0 hO e).2
  omega
end
theorem cutL_next {l : List Spn} {k : Nat} {x : Spn} (hx : l[k]? = some x) (s : Spn) : cutL (l.take (k + 1)) s = cutL (l.take k) s ++ cut1 x s := by
  unfold cutL; rw [take_next hx, List.flatMap_append]; simp
set_option maxRecDepth 100000 in
set_option maxHeartbeats 16000000 in
theorem rCut_ok (l : List Spn) (A : Option Addr) (cp : Nat) (s : Spn) (w : World) (hl : l.length ≤ 1048577) (hR : Rd w w.heap.size 2 A l.length (l.flatMap Spn.cells)) (hsp : ∀ x ∈ l, okS x) (hs : okS s) (hap : Apart l) :
    Calls Tryz.prog 115 #[.slice A l.length cp, .agg #[.int .u64 s.lo, .int .u64 s.len]] w fun e w' => ∃ v, e = .returned v ∧ w'.ownsRow w.heap.size 102 2 v (cutL l s).length ((cutL l s).flatMap Spn.cells) ∧ Below w.heap.size w w' := by
  obtain ⟨i0, hi, hz0, hz1, hz2⟩ := info_parts infoSpan14
  have hb1 := below_one w (.cells #[.int .u64 s.lo, .int .u64 s.len] 102)
  have hc0 : (w.alloc (.cells #[.int .u64 s.lo, .int .u64 s.len] 102)).cell? ⟨w.heap.size, 0, none⟩ = some (.int .u64 s.lo) := by simp
  have hc1 : (w.alloc (.cells #[.int .u64 s.lo, .int .u64 s.len] 102)).cell? ⟨w.heap.size, 1, none⟩ = some (.int .u64 s.len) := by simp
  have hz : (w.alloc (.cells #[.int .u64 s.lo, .int .u64 s.len] 102)).heap.size = w.heap.size + 1 := by simp
  obtain ⟨W1, hW1⟩ : ∃ W1, w.alloc (.cells #[.int .u64 s.lo, .int .u64 s.len] 102) = W1 := ⟨_, rfl⟩
  rw [hW1] at hb1 hc0 hc1 hz
  have HW1 := Lib.hid hW1
  have HRD := Lib.hid (hR.up hb1)
  have HB1 := Lib.hid hb1
  have HC0 := Lib.hid hc0
  have HC1 := Lib.hid hc1
  have HZ := Lib.hid hz
  have HSP := Lib.hid hsp
  have HS := Lib.hid hs
  have bs := hs
  unfold okS okSp at bs
  have hlen : ∀ k, k ≤ l.length → (cutL (l.take k) s).length ≤ k + 1 := fun k hk => by
    have := cutL_len (l := l.take k) (s := s) (fun x hx => hsp x (List.mem_of_mem_take hx)) hs (List.Pairwise.sublist (List.take_sublist k l) hap)
    rw [List.length_take] at this
    omega
  have HLEN := Lib.hid hlen
  obtain ⟨ls, hls⟩ : ∃ v, lastS s = v := ⟨_, rfl⟩
  have HLS := Lib.hid hls
  have bls : s.lo + s.len - 1 = ls := hls
  clear hR hsp hs hap hb1 hc0 hc1 hz hW1 hlen hls
  go_enter Tryz.func115, Tryz.ntmps115
  go_upto_region 1 with (fail)
  rw [HW1.out]
  go_wp2
  go_loopw [5, 6] (fun o i wr => ∃ k : Nat, k ≤ l.length ∧ i = .int .i64 k ∧ Hid (wr.ownsRow (w.heap.size + 1) 102 2 o (cutL (l.take k) s).length ((cutL (l.take k) s).flatMap Spn.cells)) ∧ Hid (Below (w.heap.size + 1) W1 wr)) (fun _ i _ => l.length - (intOf i).toNat)
  case atStart => exact ⟨0, Nat.zero_le _, rfl, Lib.hid (World.ownsRow_nil _ _ _ _), Lib.hid (Below.refl _ _)⟩
  case round =>
    obtain ⟨k, hk, rfl, HO, HB⟩ := hrel
    by_cases hlt : k < l.length
    · obtain ⟨x, hx⟩ := get_lt hlt
      have hox := HSP.out x (List.mem_of_getElem? hx)
      have bx := hox
      unfold okS okSp at bx
      have HOX := Lib.hid hox
      have HX := Lib.hid (cutL_next hx s)
      have hrl := HLEN.out k hk
      obtain ⟨rows, hrows⟩ : ∃ rows, cutL (l.take k) s = rows := ⟨_, rfl⟩
      rw [hrows] at HO HX hrl
      have hszr : w.heap.size < wr.heap.size := by have := HB.out.size; have := HZ.out; omega
      obtain ⟨b, o, rfl, hbb, g0, g1⟩ := spn_at (HRD.out.up (by rw [HZ.out]; exact HB.out)) hx
      obtain ⟨V4, hV4, c4⟩ := CutAt.start (s := s) HO.out (HB1.out.trans (HB.out.mono (by omega))) ((HB.out.cell (p := ⟨w.heap.size, 0, none⟩) (Nat.lt_succ_self _)).trans HC0.out) ((HB.out.cell (p := ⟨w.heap.size, 1, none⟩) (Nat.lt_succ_self _)).trans HC1.out) hszr x
      have HV4 := Lib.hid hV4
      have C4 := Lib.hid c4
      have HBV := Lib.hid (show Below (w.heap.size + 1) W1 V4 from HB.out.trans (by rw [← hV4]; exact (below_one wr _).mono (by omega)))
      have n0 : (0 : Int) ≤ (k : Int) := by omega
      have n1 : (k : Int) < (l.length : Int) := by omega
      obtain ⟨lx, hlx⟩ : ∃ v, lastS x = v := ⟨_, rfl⟩
      have HLX := Lib.hid hlx
      have blx : x.lo + x.len - 1 = lx := hlx
      obtain ⟨vm, hvm⟩ : ∃ v, meetS x s = v := ⟨_, rfl⟩
      have HVM := Lib.hid hvm
      have HROW := Lib.hid hrows
      clear hx hox hV4 c4 hlx hvm hrows
      go_upto_region 6 with (fail)
      rw [HV4.out]
      clear g0 g1
      obtain ⟨s0, s1, x0, x1⟩ := C4.out.cells
      go_wp2_with fail
      refine (rMeet_valS x s vm V4 HOX.out HS.out HVM).mono ?_
      rintro e w5 ⟨rfl, hb5⟩
      have C5 := Lib.hid (C4.out.up hb5)
      have HB5 := Lib.hid (show Below (w.heap.size + 1) W1 w5 from HBV.out.trans (hb5.mono (by have := C4.out.gz; have := C4.out.gl; omega)))
      clear s0 s1 x0 x1 hb5
      cases vm
      · have HN := Lib.hid (show cutL (l.take (k + 1)) s = rows ++ [⟨x.lo, x.len⟩] by rw [HX.out]; unfold cut1; rw [HVM.out]; rfl)
        obtain ⟨s0, s1, x0, x1⟩ := C5.out.cells
        have hz5 : w.heap.size < w5.heap.size := Nat.lt_trans C5.out.gz C5.out.gl
        have C6 := Lib.hid (C5.out.up (below_one w5 (.cells #[.int .u64 x.lo, .int .u64 x.len] 102)))
        go_wp2_with (at_builtin; go_loud (refine wpList_append_lies _ rfl (.tmp 22) (.tmp 24) _ rfl (w.heap.size + 1) 102 i0 (.agg #[.int .u64 0, .int .u64 0]) 2 16 Tryz.underlying111 hi hz0 hz1 hz2 rfl (by decide) _ _ _ rfl C6.out.own ⟨w5.heap.size, 0, none⟩ 1 1 [.int .u64 x.lo, .int .u64 x.len] rfl rfl (World.news_of_block (heap_alloc_new w5 _)) (by intro u hu; simp at hu; rcases hu with rfl | rfl <;> rfl) (by omega) (by unfold maxLen; omega) (by omega) (by simp; omega) _ rfl ?_); intro g2 cap w7 hown hg hat hlt7)
        have C7 := Lib.hid (C6.out.app hown hg hat)
        have HB7 := Lib.hid (show Below (w.heap.size + 1) W1 w7 from (HB5.out.trans ((below_one w5 _).mono (by omega))).grown hg (by simp; omega) (fun k e => by have := (own_lt0 C6.out.own e).1; omega))
        clear hown hg hat hlt7 s0 s1 x0 x1
        go_wp2
        go_roundw
        case rel => exact ⟨k + 1, by omega, by go_num, Lib.hid (by have := C7.out.own; rw [HN.out]; simpa using this), HB7⟩
        case measure => simp [intOf]; omega
      · have HC1' := Lib.hid (show cutL (l.take (k + 1)) s = rows ++ (cutLo x s ++ cutHi x s) by rw [HX.out]; unfold cut1; rw [HVM.out]; rfl)
        by_cases hlo : x.lo < s.lo
        · by_cases hhi : ls < lx
          · have HLO := Lib.hid (show cutLo x s = [⟨x.lo, s.lo - x.lo⟩] by unfold cutLo; rw [if_pos hlo])
            have hw3 : IntKind.u64.wrap (s.lo - x.lo) = s.lo - x.lo := by rw [IntKind.wrap_u64]; omega
            obtain ⟨s0, s1, x0, x1⟩ := C5.out.cells
            have hz5 : w.heap.size < w5.heap.size := Nat.lt_trans C5.out.gz C5.out.gl
            have C6 := Lib.hid (C5.out.up (below_one w5 (.cells #[.int .u64 x.lo, .int .u64 (s.lo - x.lo)] 102)))
            go_upto_region 10 with (at_builtin; go_loud (refine wpList_append_lies _ rfl (.tmp 31) (.tmp 40) _ rfl (w.heap.size + 1) 102 i0 (.agg #[.int .u64 0, .int .u64 0]) 2 16 Tryz.underlying111 hi hz0 hz1 hz2 rfl (by decide) _ _ _ rfl C6.out.own ⟨w5.heap.size, 0, none⟩ 1 1 [.int .u64 x.lo, .int .u64 (s.lo - x.lo)] rfl rfl (World.news_of_block (heap_alloc_new w5 _)) (by intro u hu; simp at hu; rcases hu with rfl | rfl <;> rfl) (by omega) (by unfold maxLen; omega) (by omega) (by simp; omega) _ rfl ?_); intro g2 cap w7 hown hg hat hlt7)
            have C7 := Lib.hid (C6.out.app hown hg hat)
            have HB7 := Lib.hid (show Below (w.heap.size + 1) W1 w7 from (HB5.out.trans ((below_one w5 _).mono (by omega))).grown hg (by simp; omega) (fun k e => by have := (own_lt0 C6.out.own e).1; omega))
            clear hown hg hat hlt7 s0 s1 x0 x1 hz5
            obtain ⟨s0, s1, x0, x1⟩ := C7.out.cells
            have hz7 : w.heap.size < w7.heap.size := Nat.lt_trans C7.out.gz C7.out.gl
            have gl7 := C7.out.gl
            refine wp_region_ext (by kernel_rfl) (by kernel_rfl) ?_
            repeat (go_big_quiet_step ((go_at_call 106; first | exact Calls.quiet_ext (rLast_val x lx _ HOX.out HLX) | exact Calls.quiet_ext (rLast_val s ls _ HS.out HLS))))
            refine wpQuiet_nil ?_
            intro xq
            have C8 := Lib.hid (C7.out.up (ext_below w7 xq))
            have HB8 := Lib.hid (show Below (w.heap.size + 1) W1 (ext w7 xq) from HB7.out.trans ((ext_below w7 xq).mono (by omega)))
            clear s0 s1 x0 x1 hz7 gl7
            generalize ext w7 xq = w8 at C8 HB8 ⊢
            have HHI := Lib.hid (show cutHi x s = [⟨ls + 1, lx - ls⟩] by unfold cutHi; rw [HLS.out, HLX.out, if_pos hhi])
            have hw1 : IntKind.u64.wrap (ls + 1) = ls + 1 := by rw [IntKind.wrap_u64]; omega
            have hw2 : IntKind.u64.wrap (lx - ls) = lx - ls := by rw [IntKind.wrap_u64]; omega
            go_upto_region 11 with (fail)
            obtain ⟨s0, s1, x0, x1⟩ := C8.out.cells
            have hz8 : w.heap.size < w8.heap.size := Nat.lt_trans C8.out.gz C8.out.gl
            have HKP := Lib.hid (show ∀ U, Below w8.heap.size w8 U → (fun w' => w'.cell? ⟨w.heap.size, 0, none⟩ = some (.int .u64 s.lo) ∧ w'.cell? ⟨w.heap.size, 1, none⟩ = some (.int .u64 s.len) ∧ w'.cell? ⟨wr.heap.size, 0, none⟩ = some (.int .u64 x.lo) ∧ w'.cell? ⟨wr.heap.size, 1, none⟩ = some (.int .u64 x.len)) U from fun U hU => (C8.out.up hU).cells)
            go_region_held3 (fun w' => w'.cell? ⟨w.heap.size, 0, none⟩ = some (.int .u64 s.lo) ∧ w'.cell? ⟨w.heap.size, 1, none⟩ = some (.int .u64 s.len) ∧ w'.cell? ⟨wr.heap.size, 0, none⟩ = some (.int .u64 x.lo) ∧ w'.cell? ⟨wr.heap.size, 1, none⟩ = some (.int .u64 x.len))
              (first | exact C9.out.cells | (first | (refine HKP.out _ ?_; (repeat (first | with_reducible exact HBW.out | with_reducible exact Below.refl _ _ | with_reducible refine Below.drew ?_ | (with_reducible refine Below.alloc ?_ (by first | (simp; done) | (have hq := HBW.out.size; simp at hq ⊢; omega)) _) | (with_reducible refine Below.setCell ?_ (by first | (simp; done) | (have hq := HBW.out.size; simp at hq ⊢; omega)) _))); done) | go_keep))
              (first
              | (go_at_call 106; refine (rLast_val s ls _ HS.out HLS).mono ?_; rintro e w6 ⟨rfl, hb6⟩; have HBW := Lib.hid (Below.then_ (show Below w8.heap.size w8 _ from by (repeat (first | with_reducible exact HBW.out | with_reducible exact Below.refl _ _ | with_reducible refine Below.drew ?_ | (with_reducible refine Below.alloc ?_ (by first | (simp; done) | (have hq := HBW.out.size; simp at hq ⊢; omega)) _) | (with_reducible refine Below.setCell ?_ (by first | (simp; done) | (have hq := HBW.out.size; simp at hq ⊢; omega)) _)))) hb6))
              | (go_at_call 106; refine (rLast_val x lx _ HOX.out HLX).mono ?_; rintro e w6 ⟨rfl, hb6⟩; have HBW := Lib.hid (Below.then_ (show Below w8.heap.size w8 _ from by (repeat (first | with_reducible exact HBW.out | with_reducible exact Below.refl _ _ | with_reducible refine Below.drew ?_ | (with_reducible refine Below.alloc ?_ (by first | (simp; done) | (have hq := HBW.out.size; simp at hq ⊢; omega)) _) | (with_reducible refine Below.setCell ?_ (by first | (simp; done) | (have hq := HBW.out.size; simp at hq ⊢; omega)) _)))) hb6))
              | ((with_reducible refine at_appendC ?_); refine step_append_lies _ (by rfl) (.tmp 47) (.tmp 57) _ (by rfl) (w.heap.size + 1) 102 i0 (.agg #[.int .u64 0, .int .u64 0]) 2 16 Tryz.underlying111 hi hz0 hz1 hz2 rfl (by decide) _ _ _ (by rfl) (C8.out.up (Below.then_ HBW.out (below_one w6 _))).own ⟨w6.heap.size, 0, none⟩ 1 1 [.int .u64 (ls + 1), .int .u64 (lx - ls)] (by rfl) (by rfl) (World.news_of_block (heap_alloc_new w6 _)) (by intro u hu; simp at hu; rcases hu with rfl | rfl <;> rfl) (by omega) (by unfold maxLen; (try simp only [List.length_append, List.length_singleton]); omega) (by (try simp only [List.length_append, List.length_singleton]); omega) (by have hq := HBW.out.size; simp; omega) _ rfl ?_; intro g3 cap3 w9 hown hg hat hlt9; have C6 := C8.out.up (Below.then_ HBW.out (below_one w6 (.cells #[.int .u64 (ls + 1), .int .u64 (lx - ls)] 102))); have C9 := Lib.hid (C6.app hown hg hat); have HB9 := Lib.hid (show Below (w.heap.size + 1) W1 w9 from ((HB8.out.trans (HBW.out.mono (by omega))).trans ((below_one w6 (.cells #[.int .u64 (ls + 1), .int .u64 (lx - ls)] 102)).mono (by have hq := HBW.out.size; omega))).grown hg (by have hq := HBW.out.size; simp; omega) (fun k e => by have := (own_lt0 C6.own e).1; omega)); clear hown hg hat hlt9 C6))
            have HN := Lib.hid (show cutL (l.take (k + 1)) s = (rows ++ [⟨x.lo, s.lo - x.lo⟩]) ++ [⟨ls + 1, lx - ls⟩] by rw [HC1'.out, HLO.out, HHI.out]; simp)
            clear s0 s1 x0 x1
            go_wp2
            go_roundw
            case rel => exact ⟨k + 1, by omega, by go_num, Lib.hid (by have := C9.out.own; rw [HN.out]; simpa using this), HB9⟩
            case measure => simp [intOf]; omega
          · have HLO := Lib.hid (show cutLo x s = [⟨x.lo, s.lo - x.lo⟩] by unfold cutLo; rw [if_pos hlo])
            have hw3 : IntKind.u64.wrap (s.lo - x.lo) = s.lo - x.lo := by rw [IntKind.wrap_u64]; omega
            obtain ⟨s0, s1, x0, x1⟩ := C5.out.cells
            have hz5 : w.heap.size < w5.heap.size := Nat.lt_trans C5.out.gz C5.out.gl
            have C6 := Lib.hid (C5.out.up (below_one w5 (.cells #[.int .u64 x.lo, .int .u64 (s.lo - x.lo)] 102)))
            go_upto_region 10 with (at_builtin; go_loud (refine wpList_append_lies _ rfl (.tmp 31) (.tmp 40) _ rfl (w.heap.size + 1) 102 i0 (.agg #[.int .u64 0, .int .u64 0]) 2 16 Tryz.underlying111 hi hz0 hz1 hz2 rfl (by decide) _ _ _ rfl C6.out.own ⟨w5.heap.size, 0, none⟩ 1 1 [.int .u64 x.lo, .int .u64 (s.lo - x.lo)] rfl rfl (World.news_of_block (heap_alloc_new w5 _)) (by intro u hu; simp at hu; rcases hu with rfl | rfl <;> rfl) (by omega) (by unfold maxLen; omega) (by omega) (by simp; omega) _ rfl ?_); intro g2 cap w7 hown hg hat hlt7)
            have C7 := Lib.hid (C6.out.app hown hg hat)
            have HB7 := Lib.hid (show Below (w.heap.size + 1) W1 w7 from (HB5.out.trans ((below_one w5 _).mono (by omega))).grown hg (by simp; omega) (fun k e => by have := (own_lt0 C6.out.own e).1; omega))
            clear hown hg hat hlt7 s0 s1 x0 x1 hz5
            obtain ⟨s0, s1, x0, x1⟩ := C7.out.cells
            have hz7 : w.heap.size < w7.heap.size := Nat.lt_trans C7.out.gz C7.out.gl
            have gl7 := C7.out.gl
            refine wp_region_ext (by kernel_rfl) (by kernel_rfl) ?_
            repeat (go_big_quiet_step ((go_at_call 106; first | exact Calls.quiet_ext (rLast_val x lx _ HOX.out HLX) | exact Calls.quiet_ext (rLast_val s ls _ HS.out HLS))))
            refine wpQuiet_nil ?_
            intro xq
            have C8 := Lib.hid (C7.out.up (ext_below w7 xq))
            have HB8 := Lib.hid (show Below (w.heap.size + 1) W1 (ext w7 xq) from HB7.out.trans ((ext_below w7 xq).mono (by omega)))
            clear s0 s1 x0 x1 hz7 gl7
            generalize ext w7 xq = w8 at C8 HB8 ⊢
            have HHI := Lib.hid (show cutHi x s = [] by unfold cutHi; rw [HLS.out, HLX.out, if_neg (by omega)])
            have HN := Lib.hid (show cutL (l.take (k + 1)) s = rows ++ [⟨x.lo, s.lo - x.lo⟩] by rw [HC1'.out, HLO.out, HHI.out]; simp)
            go_wp2
            go_roundw
            case rel => exact ⟨k + 1, by omega, by go_num, Lib.hid (by have := C8.out.own; rw [HN.out]; simpa using this), HB8⟩
            case measure => simp [intOf]; omega
        · by_cases hhi : ls < lx
          · have HLO := Lib.hid (show cutLo x s = [] by unfold cutLo; rw [if_neg (by omega)])
            obtain ⟨s0, s1, x0, x1⟩ := C5.out.cells
            go_upto_region 10 with (fail)
            have C7 := C5
            have HB7 := HB5
            clear s0 s1 x0 x1
            obtain ⟨s0, s1, x0, x1⟩ := C7.out.cells
            have hz7 : w.heap.size < w5.heap.size := Nat.lt_trans C7.out.gz C7.out.gl
            have gl7 := C7.out.gl
            refine wp_region_ext (by kernel_rfl) (by kernel_rfl) ?_
            repeat (go_big_quiet_step ((go_at_call 106; first | exact Calls.quiet_ext (rLast_val x lx _ HOX.out HLX) | exact Calls.quiet_ext (rLast_val s ls _ HS.out HLS))))
            refine wpQuiet_nil ?_
            intro xq
            have C8 := Lib.hid (C7.out.up (ext_below w5 xq))
            have HB8 := Lib.hid (show Below (w.heap.size + 1) W1 (ext w5 xq) from HB7.out.trans ((ext_below w5 xq).mono (by omega)))
            clear s0 s1 x0 x1 hz7 gl7
            generalize ext w5 xq = w8 at C8 HB8 ⊢
            have HHI := Lib.hid (show cutHi x s = [⟨ls + 1, lx - ls⟩] by unfold cutHi; rw [HLS.out, HLX.out, if_pos hhi])
            have hw1 : IntKind.u64.wrap (ls + 1) = ls + 1 := by rw [IntKind.wrap_u64]; omega
            have hw2 : IntKind.u64.wrap (lx - ls) = lx - ls := by rw [IntKind.wrap_u64]; omega
            go_upto_region 11 with (fail)
            obtain ⟨s0, s1, x0, x1⟩ := C8.out.cells
            have hz8 : w.heap.size < w8.heap.size := Nat.lt_trans C8.out.gz C8.out.gl
            have HKP := Lib.hid (show ∀ U, Below w8.heap.size w8 U → (fun w' => w'.cell? ⟨w.heap.size, 0, none⟩ = some (.int .u64 s.lo) ∧ w'.cell? ⟨w.heap.size, 1, none⟩ = some (.int .u64 s.len) ∧ w'.cell? ⟨wr.heap.size, 0, none⟩ = some (.int .u64 x.lo) ∧ w'.cell? ⟨wr.heap.size, 1, none⟩ = some (.int .u64 x.len)) U from fun U hU => (C8.out.up hU).cells)
            go_region_held3 (fun w' => w'.cell? ⟨w.heap.size, 0, none⟩ = some (.int .u64 s.lo) ∧ w'.cell? ⟨w.heap.size, 1, none⟩ = some (.int .u64 s.len) ∧ w'.cell? ⟨wr.heap.size, 0, none⟩ = some (.int .u64 x.lo) ∧ w'.cell? ⟨wr.heap.size, 1, none⟩ = some (.int .u64 x.len))
              (first | exact C9.out.cells | (first | (refine HKP.out _ ?_; (repeat (first | with_reducible exact HBW.out | with_reducible exact Below.refl _ _ | with_reducible refine Below.drew ?_ | (with_reducible refine Below.alloc ?_ (by first | (simp; done) | (have hq := HBW.out.size; simp at hq ⊢; omega)) _) | (with_reducible refine Below.setCell ?_ (by first | (simp; done) | (have hq := HBW.out.size; simp at hq ⊢; omega)) _))); done) | go_keep))
              (first
              | (go_at_call 106; refine (rLast_val s ls _ HS.out HLS).mono ?_; rintro e w6 ⟨rfl, hb6⟩; have HBW := Lib.hid (Below.then_ (show Below w8.heap.size w8 _ from by (repeat (first | with_reducible exact HBW.out | with_reducible exact Below.refl _ _ | with_reducible refine Below.drew ?_ | (with_reducible refine Below.alloc ?_ (by first | (simp; done) | (have hq := HBW.out.size; simp at hq ⊢; omega)) _) | (with_reducible refine Below.setCell ?_ (by first | (simp; done) | (have hq := HBW.out.size; simp at hq ⊢; omega)) _)))) hb6))
              | (go_at_call 106; refine (rLast_val x lx _ HOX.out HLX).mono ?_; rintro e w6 ⟨rfl, hb6⟩; have HBW := Lib.hid (Below.then_ (show Below w8.heap.size w8 _ from by (repeat (first | with_reducible exact HBW.out | with_reducible exact Below.refl _ _ | with_reducible refine Below.drew ?_ | (with_reducible refine Below.alloc ?_ (by first | (simp; done) | (have hq := HBW.out.size; simp at hq ⊢; omega)) _) | (with_reducible refine Below.setCell ?_ (by first | (simp; done) | (have hq := HBW.out.size; simp at hq ⊢; omega)) _)))) hb6))
              | ((with_reducible refine at_appendC ?_); refine step_append_lies _ (by rfl) (.tmp 47) (.tmp 57) _ (by rfl) (w.heap.size + 1) 102 i0 (.agg #[.int .u64 0, .int .u64 0]) 2 16 Tryz.underlying111 hi hz0 hz1 hz2 rfl (by decide) _ _ _ (by rfl) (C8.out.up (Below.then_ HBW.out (below_one w6 _))).own ⟨w6.heap.size, 0, none⟩ 1 1 [.int .u64 (ls + 1), .int .u64 (lx - ls)] (by rfl) (by rfl) (World.news_of_block (heap_alloc_new w6 _)) (by intro u hu; simp at hu; rcases hu with rfl | rfl <;> rfl) (by omega) (by unfold maxLen; (try simp only [List.length_append, List.length_singleton]); omega) (by (try simp only [List.length_append, List.length_singleton]); omega) (by have hq := HBW.out.size; simp; omega) _ rfl ?_; intro g3 cap3 w9 hown hg hat hlt9; have C6 := C8.out.up (Below.then_ HBW.out (below_one w6 (.cells #[.int .u64 (ls + 1), .int .u64 (lx - ls)] 102))); have C9 := Lib.hid (C6.app hown hg hat); have HB9 := Lib.hid (show Below (w.heap.size + 1) W1 w9 from ((HB8.out.trans (HBW.out.mono (by omega))).trans ((below_one w6 (.cells #[.int .u64 (ls + 1), .int .u64 (lx - ls)] 102)).mono (by have hq := HBW.out.size; omega))).grown hg (by have hq := HBW.out.size; simp; omega) (fun k e => by have := (own_lt0 C6.own e).1; omega)); clear hown hg hat hlt9 C6))
            have HN := Lib.hid (show cutL (l.take (k + 1)) s = (rows) ++ [⟨ls + 1, lx - ls⟩] by rw [HC1'.out, HLO.out, HHI.out]; simp)
            clear s0 s1 x0 x1
            go_wp2
            go_roundw
            case rel => exact ⟨k + 1, by omega, by go_num, Lib.hid (by have := C9.out.own; rw [HN.out]; simpa using this), HB9⟩
            case measure => simp [intOf]; omega
          · have HLO := Lib.hid (show cutLo x s = [] by unfold cutLo; rw [if_neg (by omega)])
            obtain ⟨s0, s1, x0, x1⟩ := C5.out.cells
            go_upto_region 10 with (fail)
            have C7 := C5
            have HB7 := HB5
            clear s0 s1 x0 x1
            obtain ⟨s0, s1, x0, x1⟩ := C7.out.cells
            have hz7 : w.heap.size < w5.heap.size := Nat.lt_trans C7.out.gz C7.out.gl
            have gl7 := C7.out.gl
            refine wp_region_ext (by kernel_rfl) (by kernel_rfl) ?_
            repeat (go_big_quiet_step ((go_at_call 106; first | exact Calls.quiet_ext (rLast_val x lx _ HOX.out HLX) | exact Calls.quiet_ext (rLast_val s ls _ HS.out HLS))))
            refine wpQuiet_nil ?_
            intro xq
            have C8 := Lib.hid (C7.out.up (ext_below w5 xq))
            have HB8 := Lib.hid (show Below (w.heap.size + 1) W1 (ext w5 xq) from HB7.out.trans ((ext_below w5 xq).mono (by omega)))
            clear s0 s1 x0 x1 hz7 gl7
            generalize ext w5 xq = w8 at C8 HB8 ⊢
            have HHI := Lib.hid (show cutHi x s = [] by unfold cutHi; rw [HLS.out, HLX.out, if_neg (by omega)])
            have HN := Lib.hid (show cutL (l.take (k + 1)) s = rows by rw [HC1'.out, HLO.out, HHI.out]; simp)
            go_wp2
            go_roundw
            case rel => exact ⟨k + 1, by omega, by go_num, Lib.hid (by have := C8.out.own; rw [HN.out]; simpa using this), HB8⟩
            case measure => simp [intOf]; omega
    · obtain rfl : k = l.length := by omega
      go_wp2
      go_ret
      refine ⟨_, rfl, ?_, HB1.out.trans (HB.out.mono (by omega))⟩
      have := own_lessM HO.out (show w.heap.size ≤ w.heap.size + 1 by omega)
      rwa [List.take_length] at this
end Go.Proofs.YticdjnbkeiilfaaGreat
