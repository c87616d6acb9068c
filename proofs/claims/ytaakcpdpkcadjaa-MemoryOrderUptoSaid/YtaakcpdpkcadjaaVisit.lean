/-
  What visit of package sweep does, walked: it passes the spans in ascending order to a function, each with those ahead of it that reach it.
-/
import Derived.Test.YtaakcpdpkcadjaaVisitP
import Derived.Deep.CutBlock
import Derived.Deep.DeepCutAuto
namespace Go.Proofs.Ytaakcpdpkcadjaa
open Go.RowKit Go.Shelf
attribute [local go_sem] ext_cell
theorem ent_byLo : ∀ a w, (callFunc 61 a).run Try.prog w = .ok (.enter 61 a) w := enters_of Try.func61 (by kernel_rfl) rfl
theorem ent_byLast : ∀ a w, (callFunc 62 a).run Try.prog w = .ok (.enter 62 a) w := enters_of Try.func62 (by kernel_rfl) rfl
def wlen (w : World) (q : Nat) : Nat := match w.cell? ⟨q, 0, none⟩ with
  | some (.slice _ n _) => n
  | _ => 0
theorem Que.wlen {W : World} {q base : Nat} {f : FuncId} {v : Value} {l : List Itm} (h : Que W q base f v l) : wlen W q = l.length := by
  obtain ⟨A, c, rfl, _⟩ := h.form
  unfold Go.Proofs.Ytaakcpdpkcadjaa.wlen
  rw [h.cells.1]
theorem qLen_b {W : World} {q base : Nat} {f : FuncId} {v : Value} {l : List Itm} (h : Que W q base f v l) : Calls Try.prog 65 #[.pointer (some ⟨q, 0, none⟩)] W fun e w' => e = .returned (.int .i64 l.length) ∧ Below W.heap.size W w' :=
  (qLen_ok h).mono fun _ _ ⟨he, hw⟩ => ⟨he, hw ▸ Below.refl _ _⟩
theorem own_k {W : World} {base k : Nat} {t : TypeId} {A : Option Addr} {c : Nat} {l : List Spn} (hk : k ≤ l.length) (h : W.ownsRow base t 3 (.slice A k c) (itemsOf (l.take k)).length ((itemsOf (l.take k)).flatMap Itm.cells)) : W.ownsRow base t 3 (.slice A k c) k ((itemsOf (l.take k)).flatMap Itm.cells) := by
  rwa [itemsOf_len, List.length_take, Nat.min_eq_left hk] at h
theorem own_k2 {W : World} {base k g cap : Nat} {t : TypeId} {l : List Spn} {xs : List Value} (hk : k ≤ l.length) (h : W.ownsRow base t 3 (.slice (some ⟨g, 0, none⟩) (k + 1) cap) (k + 1) xs) : W.ownsRow base t 3 (.slice (some ⟨g, 0, none⟩) ((itemsOf (l.take k)).length + 1) cap) ((itemsOf (l.take k)).length + 1) xs := by
  rwa [itemsOf_len, List.length_take, Nat.min_eq_left hk]
theorem hFix_at {W : World} {q base : Nat} {f : FuncId} {v : Value} {l : List Itm} {x : Itm} {key : Itm → Int} {ok : Itm → Prop} (h : Que W q base f v (l ++ [x])) (hL : LessF f key ok) (hf : ∀ a w, (callFunc f a).run Try.prog w = .ok (.enter f a) w) (hall : ∀ y ∈ l ++ [x], ok y) (hh : HeapFrom key l l.length 0) (a : Int) (ha : a = (l.length : Int)) :
    Calls Try.prog 67 #[qI q, .int .i64 a] W fun e w' => e = .returned (.tuple #[]) ∧ ∃ (l' : List Itm), Que w' q base f v l' ∧ QStep W w' q v v ∧ l'.Perm (l ++ [x]) ∧ HeapFrom key l' l'.length 0 := by
  subst ha
  exact hFix_ok h hL hf hall hh
theorem qLen_0 {W : World} {q base : Nat} {f : FuncId} {v : Value} {l : List Itm} (h : Que W q base f v l) (h0 : Hid (l.length = 0)) : Calls Try.prog 65 #[.pointer (some ⟨q, 0, none⟩)] W fun e w' => e = .returned (.int .i64 0) ∧ Below W.heap.size W w' := by
  have := qLen_b h
  rw [h0.out] at this
  exact this
/-- where the first loop stands -/
structure LSt (W0 W : World) (l : List Spn) (k : Nat) (v1 : Value) : Prop where
  q1 : Que W W0.heap.size (W0.heap.size + 2) 61 v1 (itemsOf (l.take k))
  q2 : Que W (W0.heap.size + 1) (W0.heap.size + 2) 62 (.slice none 0 0) []
  bel : Below W0.heap.size W0 W
theorem LSt.start (W : World) (l : List Spn) : LSt W ((W.alloc (.cells #[.slice none 0 0, .func (.func 61) #[] #[]] 127)).alloc (.cells #[.slice none 0 0, .func (.func 62) #[] #[]] 127)) l 0 (.slice none 0 0) := by
  refine ⟨⟨(Blk.new W _ _).alloc _, World.ownsRow_nil _ _ _ _, by omega, by simp [itemsOf]⟩, ⟨?_, World.ownsRow_nil _ _ _ _, by omega, by simp⟩, Below.then_ (below_one _ _) (below_one _ _)⟩
  have := Blk.new (W.alloc (.cells #[.slice none 0 0, .func (.func 61) #[] #[]] 127)) 127 #[.slice none 0 0, .func (.func 62) #[] #[]]
  simpa using this
theorem LSt.up {W0 W V : World} {l : List Spn} {k : Nat} {v1 : Value} (h : LSt W0 W l k v1) (hb : Below W.heap.size W V) : LSt W0 V l k v1 := ⟨h.q1.up hb, h.q2.up hb, Below.then_ h.bel hb⟩
theorem LSt.push {W0 W V : World} {l : List Spn} {k : Nat} {v1 v' : Value} {s : Spn} (h : LSt W0 W l k v1) (hs : l[k]? = some s) (hq : Que V W0.heap.size (W0.heap.size + 2) 61 v' (itemsOf (l.take k) ++ [⟨s.lo, s.len, (k : Int)⟩])) (hst : QStep W V W0.heap.size v1 v') : LSt W0 V l (k + 1) v' := by
  obtain ⟨k1, _⟩ := h.q2.other hst (by omega) (by omega) (fun g e => ⟨(own_lt0 h.q1.own e).1, by simp [Value.ownBlock]⟩)
  refine ⟨by rw [itemsOf_next hs]; exact hq, k1, h.bel.trans (hst.below (Nat.le_refl _) (fun g e => by have := (own_lt0 h.q1.own e).1; omega) h.bel.size)⟩
set_option maxRecDepth 100000 in
set_option maxHeartbeats 16000000 in
theorem visit_ok {W : World} {l : List Spn} {A : Option Addr} {cp : Nat} {fv : FuncId} {lb : Array Value} {J : List Itm → World → Prop} (hlen : l.length ≤ 1048576) (hsp : ∀ s ∈ l, okSp s.lo s.len) (hR : Rd W W.heap.size 2 A l.length (l.flatMap Spn.cells))
    (hc : Cb fv lb W.heap.size (itemsOf l) J) (hj : J [] W) :
    Calls Try.prog 54 #[.slice A l.length cp, .func (.func fv) #[] lb] W fun e w' => e = .returned (.tuple #[]) ∧ ∃ d, d.Perm (itemsOf l) ∧ J d w' := by
  obtain ⟨ii, hi, hz0, hz1, hz2⟩ := info_parts infoItem
  have HR := Lib.hid hR
  have HC := Lib.hid hc
  have HJ := Lib.hid hj
  have HSP := Lib.hid hsp
  have HS := LSt.start W l
  clear hR hc hj hsp
  go_enter Try.func54, Try.ntmps54
  go_upto_region 1 with (fail)
  generalize World.alloc (World.alloc W _) _ = W0 at HS ⊢
  have HS0 := Lib.hid HS
  clear HS
  go_wp2
  go_loopw [16] (fun i wr => ∃ (k : Nat) (v1 : Value), k ≤ l.length ∧ i = .int .i64 k ∧ Hid (LSt W wr l k v1)) (fun i _ => l.length - (intOf i).toNat)
  case atStart => exact ⟨0, _, Nat.zero_le _, rfl, HS0⟩
  case round =>
    obtain ⟨k, v1, hk, rfl, HL⟩ := hrel
    by_cases hlt : k < l.length
    · obtain ⟨s, hs⟩ := get_lt hlt
      obtain ⟨b, o, rfl, hb, g0, g1⟩ := spn_at (HR.out.up HL.out.bel) hs
      have HX := Lib.hid hs
      have k0 : (0 : Int) ≤ (k : Int) := by omega
      have k1 : (k : Int) < (l.length : Int) := by omega
      clear hs
      go_upto_region 4 with (fail)
      have hbn := below_one wr (.cells #[.int .u64 s.lo, .int .u64 s.len] 75)
      have bk := Blk.new wr 75 #[.int .u64 s.lo, .int .u64 s.len]
      generalize World.alloc wr _ = W1 at hbn bk ⊢
      have HL1 := Lib.hid (HL.out.up hbn)
      have p0 := bk.cell 0
      have p1 := bk.cell 1
      simp at p0 p1
      have hbl := bk.lt
      obtain ⟨c0, c1, hz⟩ := HL1.out.q1.cells
      obtain ⟨A1, cc, rfl, _⟩ := HL1.out.q1.form
      rw [itemsOf_len, List.length_take, Nat.min_eq_left hk] at c0 HL1 HL
      clear hbn bk g0 g1 hb
      go_region_law ((refine step_append_lies _ (by rfl) (.tmp 25) (.tmp 29) _ (by rfl) (W.heap.size + 2) 115 ii (.agg #[.int .u64 0, .int .u64 0, .int .i64 0]) 3 24 Try.underlying116 hi hz0 hz1 hz2 rfl (by decide) _ k _ (by rfl) (own_k hk ((HL1.out.q1.up (show Below W1.heap.size W1 _ from (by repeat (first | with_reducible exact Below.refl _ _ | with_reducible refine Below.drew ?_ | (with_reducible refine Below.alloc ?_ (by simp) _) | (with_reducible refine Below.setCell ?_ (by simp) _))))).own)) ⟨W1.heap.size, 0, none⟩ 1 1 [.int .u64 s.lo, .int .u64 s.len, .int .i64 k] (by rfl) (by rfl) (World.news_of_block (heap_alloc_new W1 _)) (by intro u hu; simp at hu; rcases hu with rfl | rfl | rfl <;> rfl) (by omega) (by unfold maxLen; omega) (by omega) (by have := HL1.out.bel.size; have := HL1.out.q2.bk.lt; simp; omega) _ rfl ?_; intro g2 cap w7 hown hgrow hat hlt7; have hb7 := push_bk HL1.out.q1 (show Below W1.heap.size W1 _ from (by repeat (first | with_reducible exact Below.refl _ _ | with_reducible refine Below.drew ?_ | (with_reducible refine Below.alloc ?_ (by simp) _) | (with_reducible refine Below.setCell ?_ (by simp) _)))) hgrow; have HP := Lib.hid (push_row (x := ⟨s.lo, s.len, (k : Int)⟩) HL1.out.q1 (show Below W1.heap.size W1 _ from (by repeat (first | with_reducible exact Below.refl _ _ | with_reducible refine Below.drew ?_ | (with_reducible refine Below.alloc ?_ (by simp) _) | (with_reducible refine Below.setCell ?_ (by simp) _)))) (own_k2 hk hown) hgrow hat (by rw [itemsOf_len]; simp; omega)); have c7 := hb7.1; have f7 := hb7.2; clear hown hgrow hat hb7))
      all_goals
        rw [itemsOf_len, List.length_take, Nat.min_eq_left hk] at HP
        have HL2 := Lib.hid (HL1.out.push HX.out HP.out.1 HP.out.2)
        clear c7 f7 p0 p1 c0 c1 hz hbl
        go_wp2
        go_roundw
        case rel => exact ⟨k + 1, _, by omega, by go_num, HL2⟩
        case measure => simp [intOf]; omega
    · obtain rfl : k = l.length := by omega
      have hq1 := HL.out.q1
      rw [List.take_length] at hq1
      have HQ1 := Lib.hid hq1
      have HALL := Lib.hid (itemsOf_ok HSP.out)
      clear hq1
      go_wp2_with fail
      refine (hInit_ok HQ1.out byLo_ok ent_byLo HALL.out).mono ?_
      rintro e w1 ⟨rfl, lw, hq1, hs1, hp1, hh1⟩
      have hv2 := HL.out.q2.other hs1 (by omega) (by omega) (fun g e => ⟨(own_lt0 HQ1.out.own e).1, by simp [Value.ownBlock]⟩)
      have VS0 : VSt w1 W.heap.size (itemsOf l) J [] lw [] v1 (.slice none 0 0) 0 :=
        ⟨hq1, hv2.1, fun g _ e2 => by simp [Value.ownBlock] at e2, hh1, HeapFrom.none (by simp), by rw [List.nil_append]; exact hp1, fun y hy => (HALL.out y (hp1.mem_iff.1 hy)).1, by simp, by simp,
          HC.out.st _ _ _ HJ.out (.of_below (HL.out.bel.trans (hs1.below (Nat.le_refl _) (fun g e => by have := (own_lt0 HQ1.out.own e).1; omega) HL.out.bel.size)))⟩
      have HV0 := Lib.hid VS0
      clear hq1 hs1 hp1 hh1 hv2 VS0
      go_wp2
      go_loopw [9] (fun _ wr => ∃ (d lw lo : List Itm) (v1 v2 : Value) (m : Int), Hid (VSt wr W.heap.size (itemsOf l) J d lw lo v1 v2 m) ∧ W.heap.size + 1 < wr.heap.size) (fun _ wr => wlen wr W.heap.size)
      case atStart => exact ⟨_, _, _, _, _, _, HV0, HV0.out.q2.bk.lt⟩
      case round =>
        obtain ⟨d, lw, lo, v1, v2, m, HV, hsz⟩ := hrel
        have hwl := HV.out.q1.wlen
        have hdl : d.length + lw.length = l.length := by have := HV.out.perm.length_eq; rw [List.length_append, itemsOf_len] at this; exact this
        rcases Nat.eq_zero_or_pos lw.length with h0 | h0
        · have hnil : lw = [] := List.eq_nil_of_length_eq_zero h0
          subst hnil
          clear hwl
          go_wp2_with fail
          refine (qLen_ok HV.out.q1).mono ?_
          rintro e w2 ⟨rfl, rfl⟩
          go_wp2
          go_end0
          exact ⟨rfl, d, by have := HV.out.perm; rwa [List.append_nil] at this, HV.out.j⟩
        · have hpos : (0 : Int) < (lw.length : Int) := by omega
          have HWL := Lib.hid hwl
          clear hwl
          go_wp2_with fail
          refine (qLen_ok HV.out.q1).mono ?_
          rintro e w2 ⟨rfl, rfl⟩
          go_wp2_with fail
          have HALLW := Lib.hid (show ∀ y ∈ lw, okItm y from fun y hy => HALL.out y (HV.out.perm.mem_iff.1 (by simp [hy])))
          refine (hPop_ok HV.out.q1 byLo_ok ent_byLo HALLW.out HV.out.h1 h0).mono ?_
          rintro e w3 ⟨x, lw', v1', rfl, hq3, hs3, hp3, hh3, hm3⟩
          have HI := Lib.hid (HV.out.take_ HC.out (Nat.le_refl _) hq3 hs3 hp3 hh3 hm3)
          have HOX := Lib.hid (HALLW.out x (hp3.mem_iff.1 (by simp)))
          have hlw : lw'.length + 1 = lw.length := by have := hp3.length_eq; simpa using this
          have hsz3 := hs3.size
          have hta := assertItem x.val
          clear hq3 hs3 hp3 hh3 hm3
          go_upto_region 10 with (fail)
          have hbn := below_one w3 (.cells #[.int .u64 x.lo, .int .u64 x.len, .int .i64 x.idx] 115)
          have bk := Blk.new w3 115 #[.int .u64 x.lo, .int .u64 x.len, .int .i64 x.idx]
          generalize World.alloc w3 _ = W4 at hbn bk ⊢
          have HI4 := Lib.hid (HI.out.up HC.out hbn)
          have BK4 := Lib.hid bk
          have hx4 : W.heap.size + 1 < w3.heap.size := by omega
          have HNE := Lib.hid (show ∀ g, v2.ownBlock = some g → g ≠ w3.heap.size from fun g e => by have := (own_lt0 HI.out.q2.own e).2; omega)
          generalize w3.heap.size = xb at *
          clear hbn bk hta
          obtain ⟨wo, rfl⟩ : ∃ wo : World, wo = wr := ⟨_, rfl⟩
          clear HI
          go_loopw [46] (fun _ wi => ∃ (cur : List Itm) (v2 : Value), Hid (VIn wi W.heap.size (itemsOf l) J d lw' x cur v1' v2) ∧ Hid (Blk wi xb 115 #[.int .u64 x.lo, .int .u64 x.len, .int .i64 x.idx]) ∧ Hid (∀ g, v2.ownBlock = some g → g ≠ xb)) (fun _ wi => wlen wi (W.heap.size + 1))
          case atStart => exact ⟨_, _, HI4, BK4, HNE⟩
          case round =>
            obtain ⟨cur, v2, HIN, BX, HNX⟩ := hrel
            have hwl := HIN.out.q2.wlen
            have hcl := HIN.out.q2.len
            have HWC := Lib.hid hwl
            clear hwl
            have hcall : (∀ y ∈ cur, x.lo ≤ lastOf y) ∨ ∃ y, cur[0]? = some y ∧ lastOf y < x.lo := by
              rcases hcur : cur[0]? with _ | y
              · have : cur = [] := by cases cur with
                  | nil => rfl
                  | cons a r => simp at hcur
                subst this
                exact .inl (by simp)
              · by_cases hy : lastOf y < x.lo
                · exact .inr ⟨y, rfl, hy⟩
                · refine .inl fun z hz => ?_
                  obtain ⟨j, hj⟩ := List.mem_iff_getElem?.1 hz
                  have := heap_min HIN.out.h2 j (List.getElem?_eq_some_iff.1 hj).1
                  rw [kv_at hcur, kv_at hj] at this
                  omega
            have HALLC := Lib.hid (show ∀ y ∈ cur, okItm y from HIN.out.allOk HALL.out)
            have hxl := BX.out.lt
            have b0 := BX.out.cell 0
            simp at b0
            obtain ⟨c0, c1, hz⟩ := HIN.out.q2.cells
            obtain ⟨cA, cc, rfl, hr⟩ := HIN.out.q2.form
            rcases hcall with hall | ⟨y, hy0, hy⟩
            · have HX := Lib.hid hall
              clear hall
              rcases Nat.eq_zero_or_pos cur.length with hc0 | hc0
              · have HZ0 := Lib.hid hc0
                rw [hc0] at c0
                have hcp := True.intro
                clear hc0 hr
                go_wp2
                refine wp_region_ext (by kernel_rfl) (by kernel_rfl) ?_
                repeat (go_big_quiet_step ((go_at_call 65; exact Calls.quiet_ext (qLen_0 (HIN.out.q2.up (ext_below _ _)) HZ0))))
                refine wpQuiet_nil ?_
                intro xq
                have HI5 := Lib.hid (HIN.out.up HC.out (ext_below _ xq))
                have BX5 := Lib.hid (BX.out.below (ext_below _ xq) hxl)
                generalize ext wr xq = W5 at HI5 BX5 ⊢
                clear b0 c0 c1 hz
                have hdn : d.length < l.length := by omega
                have hcd : cur.length ≤ d.length := by have := (HI5.out.opened HX.out).length_eq; have := List.length_filter_le (fun y => decide (x.lo ≤ lastOf y)) d; omega
                obtain ⟨c0, c1, hz⟩ := HI5.out.q2.cells
                have b0 := BX5.out.cell 0
                have b1 := BX5.out.cell 1
                have b2 := BX5.out.cell 2
                simp at b0 b1 b2
                have hent := HC.out.ent
                clear hcp
                go_wp2
                go_region_law ((go_simp; go_at_fn fv; refine (HC.out.call d cur lw' x _ _ _ HOX.out HI5.out.bd (HI5.out.opened HX.out) HI5.out.perm (by simp; omega) (HC.out.st _ _ _ HI5.out.j (.of_below (show Below W5.heap.size W5 _ from (by repeat (first | with_reducible exact Below.refl _ _ | with_reducible refine Below.drew ?_ | (with_reducible refine Below.alloc ?_ (by simp) _) | (with_reducible refine Below.setCell ?_ (by simp) _)))))) (own_base0 (own_below HI5.out.q2.own (show Below W5.heap.size W5 _ from (by repeat (first | with_reducible exact Below.refl _ _ | with_reducible refine Below.drew ?_ | (with_reducible refine Below.alloc ?_ (by simp) _) | (with_reducible refine Below.setCell ?_ (by simp) _))))))).mono ?_; rintro e w7 ⟨rfl, hj7, hk7⟩; have HJ7 := Lib.hid hj7; have HK7 := Lib.hid ((KeepQ.of_below (show Below W5.heap.size W5 _ from (by repeat (first | with_reducible exact Below.refl _ _ | with_reducible refine Below.drew ?_ | (with_reducible refine Below.alloc ?_ (by simp) _) | (with_reducible refine Below.setCell ?_ (by simp) _))))).trans hk7); clear hj7 hk7))
                all_goals
                  have HQ7 := Lib.hid (HI5.out.q2.keepq HK7.out)
                  have BX7 := Lib.hid (BX5.out.keepq HK7.out)
                  have hz7 := HK7.out.size
                  clear b0 b1 b2 c0 c1 hz
                  have b0 := BX7.out.cell 0
                  have b1 := BX7.out.cell 1
                  have b2 := BX7.out.cell 2
                  simp at b0 b1 b2
                  have hxl7 := BX7.out.lt
                  go_wp2_with fail
                  refine (qPush_ok HQ7.out x (by omega) (by omega)).mono ?_
                  rintro e w8 ⟨rfl, v3, hq8, hs8⟩
                  have HQ8 := Lib.hid hq8
                  have HS8 := Lib.hid hs8
                  clear hq8 hs8 b0 b1 b2 hxl7
                  go_wp2_with fail
                  refine (qLen_ok HQ8.out).mono ?_
                  rintro e w9 ⟨rfl, rfl⟩
                  rw [List.length_append, List.length_singleton]
                  go_wp2_with fail
                  refine (hFix_at HQ8.out byLast_ok ent_byLast (fun z hz => by
                    rcases List.mem_append.1 hz with hz | hz
                    · exact HALLC.out z hz
                    · rw [List.mem_singleton] at hz; rw [hz]; exact HOX.out) HI5.out.h2 _ (by omega)).mono ?_
                  rintro e w10 ⟨rfl, lo2, hq10, hs10, hp10, hh10⟩
                  have HV2 := Lib.hid (HI5.out.next HX.out HOX.out HC.out (Nat.le_refl _) (HI5.out.q1.keepq HK7.out) HQ7.out HJ7.out hq10 (HS8.out.trans hs10) hp10 hh10)
                  clear hq10 hs10 hp10 hh10
                  go_wp2
                  go_roundw
                  case rel => exact ⟨d ++ [x], lw', lo2, v1', _, x.lo, HV2, HV2.out.q2.bk.lt⟩
                  case measure => have m1 := HWL.out; have m2 := HV2.out.q1.wlen; omega
              · obtain ⟨y, hy0⟩ := get_lt hc0
                have hge := HX.out y (List.mem_of_getElem? hy0)
                obtain ⟨b, o, rfl, hb, p0, p1, p2⟩ := itm_at hr hy0
                simp only [Nat.zero_mul, Nat.add_zero] at p0 p1 p2
                have hcp : (0 : Int) < (cur.length : Int) := by omega
                have hlt2 : decide (y.lo + y.len - 1 < x.lo) = false := decide_eq_false (by unfold lastOf at hge; omega)
                have HY := Lib.hid (HALLC.out y (List.mem_of_getElem? hy0))
                clear hr hy0 hge
                go_wp2
                refine wp_region_ext (by kernel_rfl) (by kernel_rfl) ?_
                repeat (go_big_quiet_step ((first
                  | (go_at_call 65; exact Calls.quiet_ext (qLen_b (HIN.out.q2.up (ext_below _ _))))
                  | (go_at_call 48; exact Calls.quiet_ext (spanLast_ok _ _ _ HY.out)))))
                refine wpQuiet_nil ?_
                intro xq
                have HI5 := Lib.hid (HIN.out.up HC.out (ext_below _ xq))
                have BX5 := Lib.hid (BX.out.below (ext_below _ xq) hxl)
                clear p0 p1 p2 hb hlt2
                generalize ext wr xq = W5 at HI5 BX5 ⊢
                clear b0 c0 c1 hz
                have hdn : d.length < l.length := by omega
                have hcd : cur.length ≤ d.length := by have := (HI5.out.opened HX.out).length_eq; have := List.length_filter_le (fun y => decide (x.lo ≤ lastOf y)) d; omega
                obtain ⟨c0, c1, hz⟩ := HI5.out.q2.cells
                have b0 := BX5.out.cell 0
                have b1 := BX5.out.cell 1
                have b2 := BX5.out.cell 2
                simp at b0 b1 b2
                have hent := HC.out.ent
                clear hcp
                go_wp2
                go_region_law ((go_simp; go_at_fn fv; refine (HC.out.call d cur lw' x _ _ _ HOX.out HI5.out.bd (HI5.out.opened HX.out) HI5.out.perm (by simp; omega) (HC.out.st _ _ _ HI5.out.j (.of_below (show Below W5.heap.size W5 _ from (by repeat (first | with_reducible exact Below.refl _ _ | with_reducible refine Below.drew ?_ | (with_reducible refine Below.alloc ?_ (by simp) _) | (with_reducible refine Below.setCell ?_ (by simp) _)))))) (own_base0 (own_below HI5.out.q2.own (show Below W5.heap.size W5 _ from (by repeat (first | with_reducible exact Below.refl _ _ | with_reducible refine Below.drew ?_ | (with_reducible refine Below.alloc ?_ (by simp) _) | (with_reducible refine Below.setCell ?_ (by simp) _))))))).mono ?_; rintro e w7 ⟨rfl, hj7, hk7⟩; have HJ7 := Lib.hid hj7; have HK7 := Lib.hid ((KeepQ.of_below (show Below W5.heap.size W5 _ from (by repeat (first | with_reducible exact Below.refl _ _ | with_reducible refine Below.drew ?_ | (with_reducible refine Below.alloc ?_ (by simp) _) | (with_reducible refine Below.setCell ?_ (by simp) _))))).trans hk7); clear hj7 hk7))
                all_goals
                  have HQ7 := Lib.hid (HI5.out.q2.keepq HK7.out)
                  have BX7 := Lib.hid (BX5.out.keepq HK7.out)
                  have hz7 := HK7.out.size
                  clear b0 b1 b2 c0 c1 hz
                  have b0 := BX7.out.cell 0
                  have b1 := BX7.out.cell 1
                  have b2 := BX7.out.cell 2
                  simp at b0 b1 b2
                  have hxl7 := BX7.out.lt
                  go_wp2_with fail
                  refine (qPush_ok HQ7.out x (by omega) (by omega)).mono ?_
                  rintro e w8 ⟨rfl, v3, hq8, hs8⟩
                  have HQ8 := Lib.hid hq8
                  have HS8 := Lib.hid hs8
                  clear hq8 hs8 b0 b1 b2 hxl7
                  go_wp2_with fail
                  refine (qLen_ok HQ8.out).mono ?_
                  rintro e w9 ⟨rfl, rfl⟩
                  rw [List.length_append, List.length_singleton]
                  go_wp2_with fail
                  refine (hFix_at HQ8.out byLast_ok ent_byLast (fun z hz => by
                    rcases List.mem_append.1 hz with hz | hz
                    · exact HALLC.out z hz
                    · rw [List.mem_singleton] at hz; rw [hz]; exact HOX.out) HI5.out.h2 _ (by omega)).mono ?_
                  rintro e w10 ⟨rfl, lo2, hq10, hs10, hp10, hh10⟩
                  have HV2 := Lib.hid (HI5.out.next HX.out HOX.out HC.out (Nat.le_refl _) (HI5.out.q1.keepq HK7.out) HQ7.out HJ7.out hq10 (HS8.out.trans hs10) hp10 hh10)
                  clear hq10 hs10 hp10 hh10
                  go_wp2
                  go_roundw
                  case rel => exact ⟨d ++ [x], lw', lo2, v1', _, x.lo, HV2, HV2.out.q2.bk.lt⟩
                  case measure => have m1 := HWL.out; have m2 := HV2.out.q1.wlen; omega
            · have hcpos : 0 < cur.length := (List.getElem?_eq_some_iff.1 hy0).1
              obtain ⟨b, o, rfl, hb, p0, p1, p2⟩ := itm_at hr hy0
              simp only [Nat.zero_mul, Nat.add_zero] at p0 p1 p2
              have hcp : (0 : Int) < (cur.length : Int) := by omega
              have hlt2 : decide (y.lo + y.len - 1 < x.lo) = true := decide_eq_true hy
              have HY := Lib.hid (HALLC.out y (List.mem_of_getElem? hy0))
              have HYL := Lib.hid hy
              have HY0 := Lib.hid hy0
              clear hr hy hy0
              go_wp2
              refine wp_region_ext (by kernel_rfl) (by kernel_rfl) ?_
              repeat (go_big_quiet_step ((first
                | (go_at_call 65; exact Calls.quiet_ext (qLen_b (HIN.out.q2.up (ext_below _ _))))
                | (go_at_call 48; exact Calls.quiet_ext (spanLast_ok _ _ _ HY.out)))))
              refine wpQuiet_nil ?_
              intro xq
              have HI5 := Lib.hid (HIN.out.up HC.out (ext_below _ xq))
              have BX5 := Lib.hid (BX.out.below (ext_below _ xq) hxl)
              clear b0 c0 c1 hz p0 p1 p2 hb
              generalize ext wr xq = W5 at HI5 BX5 ⊢
              go_wp2_with fail
              refine (hPop_ok HI5.out.q2 byLast_ok ent_byLast HALLC.out HI5.out.h2 hcpos).mono ?_
              rintro e w6 ⟨z, cur', v2', rfl, hq6, hs6, hp6, hh6, hm6⟩
              have hzl : lastOf z < x.lo := by have := hm6 y (List.mem_of_getElem? HY0.out); have := HYL.out; omega
              have HI6 := Lib.hid (HI5.out.drop_ HC.out (Nat.le_refl _) hq6 hs6 hp6 hh6 hzl)
              have BX6 := Lib.hid (BX5.out.qstep hs6 (by omega) (fun e => HNX.out _ e rfl))
              have HN6 := Lib.hid (show ∀ g, v2'.ownBlock = some g → g ≠ xb from fun g e => by
                rcases hs6.own g e with e2 | e2
                · exact HNX.out g e2
                · have := BX5.out.lt; omega)
              have hcl6 : cur'.length + 1 = cur.length := by have := hp6.length_eq; simpa using this
              clear hq6 hs6 hp6 hh6 hm6 hlt2
              go_wp2
              go_roundw
              case rel => exact ⟨cur', v2', HI6, BX6, HN6⟩
              case measure => have m1 := HWC.out; have m2 := HI6.out.q2.wlen; omega
end Go.Proofs.Ytaakcpdpkcadjaa
