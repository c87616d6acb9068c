/-
  The law RouteMutual of the chapter of layer 23, walked.
-/
import Derived.BigQuiet
import Derived.Deep.RegionHeld3
import Derived.Test.YthnbgbocanpkjaaGreatLaw23b
import Derived.Test.YthnbgbocanpkjaaGreatInvG
namespace Go.Proofs.YthnbgbocanpkjaaGreat
open Go.RowKit Go.Lib
theorem contains16V (l : List Int) (A : Option Addr) (cp : Nat) (id : Int) (w : World) (hl : l.length ≤ 1048576) (hP : Rd w w.heap.size 1 A l.length (l.map (Value.int .u16))) (v : Bool) (hv : Hid (hasI l id = v)) :
    Calls Tryz.prog 24 #[.slice A l.length cp, .int .u16 id] w fun e w' => e = .returned (.bool v) ∧ Below w.heap.size w w' := by
  have h := contains16_ok l A cp id w hl hP
  rwa [hv.out] at h
/-- how many of the first k ports have a source -/
def fedTo (c : Cfg) (k : Nat) : Nat := ((c.ports.take k).filter (fed c)).length
theorem fedTo_le (c : Cfg) (k : Nat) : fedTo c k ≤ k := by
  unfold fedTo; exact Nat.le_trans (List.length_filter_le _ _) (by simp; omega)
theorem fedTo_yes {c : Cfg} {k : Nat} {x : Prt} (h : c.ports[k]? = some x) (hf : fed c x = true) : fedTo c (k + 1) = fedTo c k + 1 := by
  unfold fedTo; rw [take_next h, List.filter_append]; simp [hf]
theorem fedTo_no {c : Cfg} {k : Nat} {x : Prt} (h : c.ports[k]? = some x) (hf : fed c x = false) : fedTo c (k + 1) = fedTo c k := by
  unfold fedTo; rw [take_next h, List.filter_append]; simp [hf]
theorem fedTo_all {c : Cfg} (h : rightB c = true) : fedTo c c.ports.length = sumDests c.chans := by
  unfold fedTo; rw [List.take_length]; exact fed_count h
set_option maxRecDepth 100000 in
set_option maxHeartbeats 16000000 in
theorem routeMutual_ok (c : Cfg) (A1 A2 A3 A4 A5 : Option Addr) (c1 c2 c3 c4 c5 : Nat) (w : World) (hR : CfgR w w.heap.size c A1 A2 A3 A4 A5 c1 c2 c3 c4 c5) (hs : c.small) (hok : c.ok) : Calls Tryz.prog 6 #[cfgV c.frame A1 A2 A3 A4 A5 c.parts.length c.wins.length c.regs.length c.ports.length c.chans.length c1 c2 c3 c4 c5] w fun e w' => e = .returned (.bool true) ∧ Below w.heap.size w w' := by
  obtain ⟨W0, hW, st⟩ := St.start_any hR 29
  have HW := Lib.hid hW
  have ST0 := Lib.hid st
  have HSM := Lib.hid hs
  have HOK := Lib.hid hok
  obtain ⟨x0, x1, x2, x3, x4, x5, hz⟩ := st.cells
  clear hR hW st hs hok
  rcases Bool.eq_false_or_eq_true (goodR c) with h1 | h1
  · have hr1 : rightR c = true := by unfold goodR at h1; simp at h1; exact h1.2
    have HR := Lib.hid hr1
    have HRR := Lib.hid (rightR_iff.1 hr1)
    have H1 := Lib.hid h1
    clear h1 hr1
    have bt := HSM.out.bd.t
    go_enter Tryz.func6, Tryz.ntmps6
    go_upto_region 1 with (fail)
    rw [HW.out]
    go_wp2_with fail
    refine (goodR_ok c _ _ _ _ _ _ _ _ _ _ _ ST0.out.R HSM.out true H1).mono ?_
    rintro e w1 ⟨rfl, hb1⟩
    have ST1 := Lib.hid (ST0.out.up hb1)
    clear hb1 x0 x1 x2 x3 x4 x5 hz
    obtain ⟨x0, x1, x2, x3, x4, x5, hz⟩ := ST1.out.cells
    go_wp2_with fail
    refine (newR_yes c _ _ _ _ _ _ _ _ _ _ _ ST1.out.R HSM.out HOK.out HR).mono ?_
    rintro e w2 ⟨gr, rfl, hrt, hb2⟩
    have ST2 := Lib.hid (ST1.out.up hb2)
    have RT2 := Lib.hid hrt
    clear hb2 hrt x0 x1 x2 x3 x4 x5 hz
    obtain ⟨x0, x1, x2, x3, x4, x5, hz⟩ := ST2.out.cells
    go_wp2_with fail
    clear x0 x1 x2 x3 x4 x5 hz
    go_loopw [4, 22] (fun n i wr => ∃ k : Nat, k ≤ c.ports.length ∧ n = .int .i64 (fedTo c k) ∧ i = .int .i64 k ∧ Hid (Below w2.heap.size w2 wr)) (fun _ i _ => c.ports.length - (intOf i).toNat)
    case atStart => exact ⟨0, Nat.zero_le _, rfl, rfl, Lib.hid (Below.refl _ _)⟩
    case round =>
      obtain ⟨k, hk, rfl, rfl, HB⟩ := hrel
      have ST := Lib.hid (ST2.out.up HB.out)
      have hfl := fedTo_le c k
      by_cases hlt : k < c.ports.length
      · obtain ⟨x, hx⟩ := get_lt hlt
        have HX := Lib.hid hx
        have HXO := Lib.hid (HOK.out.ports x (List.mem_of_getElem? hx))
        obtain ⟨b, oo, hA4, hb, p0, p1, p2, p3, p4, p5⟩ := prt_at ST.out.R.ports hx
        have hA4' := hA4
        subst hA4'
        have k0 : (0 : Int) ≤ (k : Int) := by omega
        have k1 : (k : Int) < (c.ports.length : Int) := by omega
        obtain ⟨W6, hW6, pt6, hb6⟩ := PtBox.new wr x 41
        have HW6 := Lib.hid hW6
        have PT6w := Lib.hid pt6
        have HB6 := Lib.hid (Below.then_ HB.out hb6)
        obtain ⟨s, so, hso⟩ : ∃ s so, fromOf c x.id = (s, so) := ⟨_, _, rfl⟩
        have HSO := Lib.hid hso
        clear hx hW6 hb6 hso hA4
        go_upto_region 10 with (fail)
        rw [HW6.out]
        clear HW6 p0 p1 p2 p3 p4 p5 hb
        generalize wr.heap.size = g6 at *
        obtain ⟨q0, q1, q2, q3, q4, q5, hq⟩ := pt6
        go_wp2_with fail
        refine (mSource_ok c HRR.out gr x.id HXO.out.id _ (RT2.out.up HB6.out) s so HSO).mono ?_
        rintro e w8 ⟨rfl, hb8⟩
        have PT6 := Lib.hid (PT6w.out.up hb8)
        have HB8 := Lib.hid (Below.then_ HB6.out hb8)
        have ST8 := Lib.hid (ST2.out.up HB8.out)
        have RT8 := Lib.hid (RT2.out.up HB8.out)
        clear hb8 q0 q1 q2 q3 q4 q5 hq PT6w
        obtain ⟨q0, q1, q2, q3, q4, q5, hq⟩ := PT6.out
        obtain ⟨x0, x1, x2, x3, x4, x5, hz⟩ := ST8.out.cells
        rcases so with _ | _
        · have hf : (Value.int .i64 ((fedTo c k : Nat) : Int)) = .int .i64 ((fedTo c (k + 1) : Nat) : Int) := by rw [fedTo_no HX.out (by unfold fed; rw [HSO.out])]
          have HF := Lib.hid hf
          clear hf
          go_wp2_with fail
          clear q0 q1 q2 q3 q4 q5 hq x0 x1 x2 x3 x4 x5 hz
          go_loopw [36] (fun i wq => ∃ j : Nat, j ≤ c.ports.length ∧ i = .int .i64 j ∧ Hid (Below w8.heap.size w8 wq)) (fun i _ => c.ports.length - (intOf i).toNat)
          case atStart => exact ⟨0, Nat.zero_le _, rfl, Lib.hid (Below.refl _ _)⟩
          case round =>
            obtain ⟨j, hj, rfl, HBj⟩ := hrel
            have STj := Lib.hid (ST8.out.up HBj.out)
            by_cases hjl : j < c.ports.length
            · obtain ⟨y, hy⟩ := get_lt hjl
              have HYO := Lib.hid (HOK.out.ports y (List.mem_of_getElem? hy))
              obtain ⟨b2, oo2, hA2, hb, p0, p1, p2, p3, p4, p5⟩ := prt_at STj.out.R.ports hy
              obtain ⟨rfl, rfl⟩ : b = b2 ∧ oo = oo2 := by injection hA2 with hA3; injection hA3 with hA4 hA5; exact ⟨hA4, hA5⟩
              clear hA2
              have j0 : (0 : Int) ≤ (j : Int) := by omega
              have j1 : (j : Int) < (c.ports.length : Int) := by omega
              obtain ⟨W10, hW10, pt10, hb10⟩ := PtBox.new wr y 41
              have HW10 := Lib.hid hW10
              have PT10 := Lib.hid pt10
              have HB10 := Lib.hid (Below.then_ HBj.out hb10)
              clear hy hW10 pt10 hb10
              go_upto_region 14 with (fail)
              rw [HW10.out]
              clear HW10 p0 p1 p2 p3 p4 p5 hb
              generalize wr.heap.size = g10 at *
              have HV := Lib.hid (show hasI (routeOf c y.id) x.id = false by rw [route_has HRR.out.rb, HSO.out]; simp)
              obtain ⟨L, hL⟩ : ∃ L, routeOf c y.id = L := ⟨_, rfl⟩
              have hLl : L.length ≤ 1048576 := by rw [← hL]; exact route_len HSM.out y.id
              have HVL := Lib.hid (show hasI L x.id = false by rw [← hL]; exact HV.out)
              have HL := Lib.hid hL
              clear hL HV
              have KEEP : ∀ U, Below W10.heap.size W10 U → (fun U => U.cell? ⟨g6, 0, none⟩ = some (.int .u16 x.id) ∧ U.cell? ⟨g10, 0, none⟩ = some (.int .u16 y.id)) U := fun U hU => ⟨(PT6.out.up (HB10.out.trans (hU.mono HB10.out.size))).1, (PT10.out.up hU).1⟩
              have HKP := Lib.hid KEEP
              have HBW := Lib.hid (Below.refl W10.heap.size W10)
              obtain ⟨m0, m1⟩ := KEEP W10 (Below.refl _ _)
              clear KEEP
              refine wp_region_G 40 15 rfl (by kernel_rfl) (by kernel_rfl) (by kernel_rfl) (Nat.le_of_ble_eq_true (by kernel_rfl))
                [.pointer (some ⟨gr, 0, none⟩), .pointer (some ⟨g10, 0, none⟩), .int .u16 y.id, undef, .pointer (some ⟨g6, 0, none⟩), .int .u16 x.id, .bool false, .bool false, .bool false, undef, undef, undef, undef, .bool false, .bool false]
                (fun i => i == 3) (by kernel_rfl) (fun _ v U => ∃ A a, v = .slice A L.length a ∧ Rd U U.heap.size 1 A L.length (L.map (Value.int .u16))) (fun U => Below W10.heap.size W10 U)
                ((Below.refl _ _).drew) (fun U V hU hb => Below.then_ hU hb) (fun _ v U V _ ⟨A, a, h1, h2⟩ hb => ⟨A, a, h1, h2.up hb⟩) ?hun ?hop ?hend
              case hun =>
                intro i o ho
                match i, ho with
                | 0, ho => cases ho; intro h; first | exact ⟨rfl, rfl⟩ | cases h
                | 1, ho => cases ho; intro h; first | exact ⟨rfl, rfl⟩ | cases h
                | 2, ho => cases ho; intro h; first | exact ⟨rfl, rfl⟩ | cases h
                | 3, ho => cases ho; intro h; first | exact ⟨rfl, rfl⟩ | cases h
                | 4, ho => cases ho; intro h; first | exact ⟨rfl, rfl⟩ | cases h
                | 5, ho => cases ho; intro h; first | exact ⟨rfl, rfl⟩ | cases h
                | 6, ho => cases ho; intro h; first | exact ⟨rfl, rfl⟩ | cases h
                | 7, ho => cases ho; intro h; first | exact ⟨rfl, rfl⟩ | cases h
                | 8, ho => cases ho; intro h; first | exact ⟨rfl, rfl⟩ | cases h
                | 9, ho => cases ho; intro h; first | exact ⟨rfl, rfl⟩ | cases h
                | 10, ho => cases ho; intro h; first | exact ⟨rfl, rfl⟩ | cases h
                | 11, ho => cases ho; intro h; first | exact ⟨rfl, rfl⟩ | cases h
                | 12, ho => cases ho; intro h; first | exact ⟨rfl, rfl⟩ | cases h
                | 13, ho => cases ho; intro h; first | exact ⟨rfl, rfl⟩ | cases h
                | 14, ho => cases ho; intro h; first | exact ⟨rfl, rfl⟩ | cases h
                | k + 15, ho => exact absurd ho (by simp)
              case hop =>
                intro i o ho hw U hE ρ r0 rf r1 r2
                obtain ⟨m0, m1⟩ := HKP.out U hE
                match i, ho with
                | 0, ho =>
                  cases ho
                  have q3 := r1 3 (by decide)
                  refine RunsTo.val _ (V := U) ?_ ⟨Below.refl _ _, SC.ofV rfl⟩
                  simp only [execOp]
                  go_simp
                | 1, ho =>
                  cases ho
                  have q10 := r1 10 (by decide)
                  refine RunsTo.val _ (V := U) ?_ ⟨Below.refl _ _, SC.ofV rfl⟩
                  simp only [execOp]
                  go_simp
                | 2, ho =>
                  cases ho
                  have q41 : ρ (.tmp 41) = _ := (r2 { on := 1, ground := .data } (by simp) rfl).val rfl
                  refine RunsTo.val _ (V := U) ?_ ⟨Below.refl _ _, SC.ofV rfl⟩
                  simp only [execOp]
                  go_simp
                | 3, ho =>
                  cases ho
                  have q40 : ρ (.tmp 40) = _ := (r2 { on := 0, ground := .data } (by simp) rfl).val rfl
                  have q42 : ρ (.tmp 42) = _ := (r2 { on := 2, ground := .data } (by simp) rfl).val rfl
                  refine RunsTo.call (V := U) 25 #[.pointer (some ⟨gr, 0, none⟩), .int .u16 y.id] ?_ ?_
                  · simp only [execOp]
                    go_simp
                  · refine (mRouteL c HRR.out HSM.out gr y.id HYO.out.id U (RT8.out.up (Below.then_ HB10.out hE)) L HL).mono ?_
                    rintro e V ⟨RA, ra, rfl, hra, hb⟩
                    exact ⟨_, rfl, hb, SC.ofP rfl ⟨RA, ra, rfl, hra⟩⟩
                | 4, ho =>
                  cases ho
                  have q6 := r1 6 (by decide)
                  refine RunsTo.val _ (V := U) ?_ ⟨Below.refl _ _, SC.ofV rfl⟩
                  simp only [execOp]
                  go_simp
                | 5, ho =>
                  cases ho
                  have q44 : ρ (.tmp 44) = _ := (r2 { on := 4, ground := .data } (by simp) rfl).val rfl
                  refine RunsTo.val _ (V := U) ?_ ⟨Below.refl _ _, SC.ofV rfl⟩
                  simp only [execOp]
                  go_simp
                | 6, ho =>
                  cases ho
                  obtain ⟨RA, ra, q43, hra⟩ := (r2 { on := 3, ground := .data } (by simp) rfl).got rfl
                  replace q43 : ρ (.tmp 43) = _ := q43
                  have q45 : ρ (.tmp 45) = _ := (r2 { on := 5, ground := .data } (by simp) rfl).val rfl
                  refine RunsTo.call (V := U) 24 #[.slice RA L.length ra, .int .u16 x.id] ?_ ?_
                  · simp only [execOp]
                    go_simp
                  · refine (contains16V L RA ra x.id U hLl hra false HVL).mono ?_
                    rintro e V ⟨rfl, hb⟩
                    exact ⟨_, rfl, hb, SC.ofV rfl⟩
                | 7, ho =>
                  cases ho
                  have q8 := r1 8 (by decide)
                  refine RunsTo.val _ (V := U) ?_ ⟨Below.refl _ _, SC.ofV rfl⟩
                  simp only [execOp]
                  go_simp
                | 8, ho =>
                  cases ho
                  have q47 : ρ (.tmp 47) = _ := (r2 { on := 7, ground := .data } (by simp) rfl).val rfl
                  refine RunsTo.val _ (V := U) ?_ ⟨Below.refl _ _, SC.ofV rfl⟩
                  simp only [execOp]
                  go_simp
                | 9, ho =>
                  cases ho
                  cases hw
                | 10, ho =>
                  cases ho
                  cases hw
                | 11, ho =>
                  cases ho
                  cases hw
                | 12, ho =>
                  cases ho
                  cases hw
                | 13, ho =>
                  cases ho
                  have q48 : ρ (.tmp 48) = _ := (r2 { on := 8, ground := .data } (by simp) rfl).val rfl
                  have q52 : ρ (.tmp 52) = _ := (r2 { on := 12, ground := .data } (by simp) rfl).val rfl
                  refine RunsTo.val _ (V := U) ?_ ⟨Below.refl _ _, SC.ofV rfl⟩
                  simp only [execOp]
                  go_simp
                | 14, ho =>
                  cases ho
                  have q46 : ρ (.tmp 46) = _ := (r2 { on := 6, ground := .data } (by simp) rfl).val rfl
                  have q53 : ρ (.tmp 53) = _ := (r2 { on := 13, ground := .data } (by simp) rfl).val rfl
                  refine RunsTo.val _ (V := U) ?_ ⟨Below.refl _ _, SC.ofV rfl⟩
                  simp only [execOp]
                  go_simp
                | k + 15, ho => exact absurd ho (by simp)
              case hend =>
                intro u U hE hS
                have HBW := Lib.hid hE
                have e14 : u 14 = .bool false := (hS 14 (by decide)).val rfl
                clear hS hE
                simp only [mkAt, List.take_succ_cons, List.take_zero, List.drop_succ_cons, List.drop_zero, List.range, List.range.loop, List.map_cons, List.map_nil, List.cons_append, List.nil_append, e14]
                clear e14
                
                go_wp2
                go_roundw
                case rel => exact ⟨j + 1, by omega, by go_num, Lib.hid (Below.then_ HB10.out HBW.out)⟩
                case measure => simp [intOf]; omega
            · obtain rfl : j = c.ports.length := by omega
              have HB11 := Lib.hid (Below.then_ HB8.out HBj.out)
              go_wp2
              go_roundw
              case rel => exact ⟨k + 1, by omega, HF.out, by go_num, HB11⟩
              case measure => simp [intOf]; omega
        · have hf : (Value.int .i64 ((fedTo c k : Nat) + 1 : Int)) = .int .i64 ((fedTo c (k + 1) : Nat) : Int) := by rw [fedTo_yes HX.out (by unfold fed; rw [HSO.out])]; rfl
          have HF := Lib.hid hf
          clear hf
          go_wp2_with fail
          clear q0 q1 q2 q3 q4 q5 hq x0 x1 x2 x3 x4 x5 hz
          go_loopw [36] (fun i wq => ∃ j : Nat, j ≤ c.ports.length ∧ i = .int .i64 j ∧ Hid (Below w8.heap.size w8 wq)) (fun i _ => c.ports.length - (intOf i).toNat)
          case atStart => exact ⟨0, Nat.zero_le _, rfl, Lib.hid (Below.refl _ _)⟩
          case round =>
            obtain ⟨j, hj, rfl, HBj⟩ := hrel
            have STj := Lib.hid (ST8.out.up HBj.out)
            by_cases hjl : j < c.ports.length
            · obtain ⟨y, hy⟩ := get_lt hjl
              have HYO := Lib.hid (HOK.out.ports y (List.mem_of_getElem? hy))
              obtain ⟨b2, oo2, hA2, hb, p0, p1, p2, p3, p4, p5⟩ := prt_at STj.out.R.ports hy
              obtain ⟨rfl, rfl⟩ : b = b2 ∧ oo = oo2 := by injection hA2 with hA3; injection hA3 with hA4 hA5; exact ⟨hA4, hA5⟩
              clear hA2
              have j0 : (0 : Int) ≤ (j : Int) := by omega
              have j1 : (j : Int) < (c.ports.length : Int) := by omega
              obtain ⟨W10, hW10, pt10, hb10⟩ := PtBox.new wr y 41
              have HW10 := Lib.hid hW10
              have PT10 := Lib.hid pt10
              have HB10 := Lib.hid (Below.then_ HBj.out hb10)
              clear hy hW10 pt10 hb10
              go_upto_region 14 with (fail)
              rw [HW10.out]
              clear HW10 p0 p1 p2 p3 p4 p5 hb
              generalize wr.heap.size = g10 at *
              rcases Bool.eq_false_or_eq_true (s == y.id) with he | he
              · obtain rfl : s = y.id := by simpa using he
                clear he
                have HV := Lib.hid (show hasI (routeOf c y.id) x.id = true by rw [route_has HRR.out.rb, HSO.out]; simp)
                obtain ⟨L, hL⟩ : ∃ L, routeOf c y.id = L := ⟨_, rfl⟩
                have hLl : L.length ≤ 1048576 := by rw [← hL]; exact route_len HSM.out y.id
                have HVL := Lib.hid (show hasI L x.id = true by rw [← hL]; exact HV.out)
                have HL := Lib.hid hL
                clear hL HV
                have KEEP : ∀ U, Below W10.heap.size W10 U → (fun U => U.cell? ⟨g6, 0, none⟩ = some (.int .u16 x.id) ∧ U.cell? ⟨g10, 0, none⟩ = some (.int .u16 y.id)) U := fun U hU => ⟨(PT6.out.up (HB10.out.trans (hU.mono HB10.out.size))).1, (PT10.out.up hU).1⟩
                have HKP := Lib.hid KEEP
                have HBW := Lib.hid (Below.refl W10.heap.size W10)
                obtain ⟨m0, m1⟩ := KEEP W10 (Below.refl _ _)
                clear KEEP
                go_region_held3 (fun U => U.cell? ⟨g6, 0, none⟩ = some (.int .u16 x.id) ∧ U.cell? ⟨g10, 0, none⟩ = some (.int .u16 y.id))
                  (first | (refine HKP.out _ ?_; (repeat (first | with_reducible exact HBW.out | with_reducible exact Below.refl _ _ | with_reducible refine Below.drew ?_ | (with_reducible refine Below.alloc ?_ (by first | (simp; done) | (have hq := HBW.out.size; simp at hq ⊢; omega)) _) | (with_reducible refine Below.setCell ?_ (by first | (simp; done) | (have hq := HBW.out.size; simp at hq ⊢; omega)) _))); done) | go_keep)
                  (first
                  | (go_at_call 25; refine (mRouteL c HRR.out HSM.out gr y.id HYO.out.id _ (RT8.out.up (Below.then_ HB10.out (by (repeat (first | with_reducible exact HBW.out | with_reducible exact Below.refl _ _ | with_reducible refine Below.drew ?_ | (with_reducible refine Below.alloc ?_ (by first | (simp; done) | (have hq := HBW.out.size; simp at hq ⊢; omega)) _) | (with_reducible refine Below.setCell ?_ (by first | (simp; done) | (have hq := HBW.out.size; simp at hq ⊢; omega)) _)))))) L HL).mono ?_; rintro e q1 ⟨RA, ra, rfl, hra, hq⟩; have HA := Lib.hid hra; have HBW := Lib.hid (Below.then_ (show Below W10.heap.size W10 _ from (by (repeat (first | with_reducible exact HBW.out | with_reducible exact Below.refl _ _ | with_reducible refine Below.drew ?_ | (with_reducible refine Below.alloc ?_ (by first | (simp; done) | (have hq := HBW.out.size; simp at hq ⊢; omega)) _) | (with_reducible refine Below.setCell ?_ (by first | (simp; done) | (have hq := HBW.out.size; simp at hq ⊢; omega)) _))))) hq); clear hq hra)
                  | (go_at_call 24; refine (contains16V L RA ra x.id _ hLl HA.out true HVL).mono ?_; rintro e q1 ⟨rfl, hq⟩; have HBW := Lib.hid (Below.then_ (show Below W10.heap.size W10 _ from (by (repeat (first | with_reducible exact HBW.out | with_reducible exact Below.refl _ _ | with_reducible refine Below.drew ?_ | (with_reducible refine Below.alloc ?_ (by first | (simp; done) | (have hq := HBW.out.size; simp at hq ⊢; omega)) _) | (with_reducible refine Below.setCell ?_ (by first | (simp; done) | (have hq := HBW.out.size; simp at hq ⊢; omega)) _))))) hq); clear hq)
                  | fail)
                all_goals
                  go_wp2
                  go_roundw
                  case rel => exact ⟨j + 1, by omega, by go_num, Lib.hid (Below.then_ HB10.out HBW.out)⟩
                  case measure => simp [intOf]; omega
              · have hsq : ¬ s = y.id := by simpa using he
                have HV := Lib.hid (show hasI (routeOf c y.id) x.id = false by rw [route_has HRR.out.rb, HSO.out]; simp [hsq])
                obtain ⟨L, hL⟩ : ∃ L, routeOf c y.id = L := ⟨_, rfl⟩
                have hLl : L.length ≤ 1048576 := by rw [← hL]; exact route_len HSM.out y.id
                have HVL := Lib.hid (show hasI L x.id = false by rw [← hL]; exact HV.out)
                have HL := Lib.hid hL
                clear hL HV
                have KEEP : ∀ U, Below W10.heap.size W10 U → (fun U => U.cell? ⟨g6, 0, none⟩ = some (.int .u16 x.id) ∧ U.cell? ⟨g10, 0, none⟩ = some (.int .u16 y.id)) U := fun U hU => ⟨(PT6.out.up (HB10.out.trans (hU.mono HB10.out.size))).1, (PT10.out.up hU).1⟩
                have HKP := Lib.hid KEEP
                have HBW := Lib.hid (Below.refl W10.heap.size W10)
                obtain ⟨m0, m1⟩ := KEEP W10 (Below.refl _ _)
                clear KEEP
                go_region_held3 (fun U => U.cell? ⟨g6, 0, none⟩ = some (.int .u16 x.id) ∧ U.cell? ⟨g10, 0, none⟩ = some (.int .u16 y.id))
                  (first | (refine HKP.out _ ?_; (repeat (first | with_reducible exact HBW.out | with_reducible exact Below.refl _ _ | with_reducible refine Below.drew ?_ | (with_reducible refine Below.alloc ?_ (by first | (simp; done) | (have hq := HBW.out.size; simp at hq ⊢; omega)) _) | (with_reducible refine Below.setCell ?_ (by first | (simp; done) | (have hq := HBW.out.size; simp at hq ⊢; omega)) _))); done) | go_keep)
                  (first
                  | (go_at_call 25; refine (mRouteL c HRR.out HSM.out gr y.id HYO.out.id _ (RT8.out.up (Below.then_ HB10.out (by (repeat (first | with_reducible exact HBW.out | with_reducible exact Below.refl _ _ | with_reducible refine Below.drew ?_ | (with_reducible refine Below.alloc ?_ (by first | (simp; done) | (have hq := HBW.out.size; simp at hq ⊢; omega)) _) | (with_reducible refine Below.setCell ?_ (by first | (simp; done) | (have hq := HBW.out.size; simp at hq ⊢; omega)) _)))))) L HL).mono ?_; rintro e q1 ⟨RA, ra, rfl, hra, hq⟩; have HA := Lib.hid hra; have HBW := Lib.hid (Below.then_ (show Below W10.heap.size W10 _ from (by (repeat (first | with_reducible exact HBW.out | with_reducible exact Below.refl _ _ | with_reducible refine Below.drew ?_ | (with_reducible refine Below.alloc ?_ (by first | (simp; done) | (have hq := HBW.out.size; simp at hq ⊢; omega)) _) | (with_reducible refine Below.setCell ?_ (by first | (simp; done) | (have hq := HBW.out.size; simp at hq ⊢; omega)) _))))) hq); clear hq hra)
                  | (go_at_call 24; refine (contains16V L RA ra x.id _ hLl HA.out false HVL).mono ?_; rintro e q1 ⟨rfl, hq⟩; have HBW := Lib.hid (Below.then_ (show Below W10.heap.size W10 _ from (by (repeat (first | with_reducible exact HBW.out | with_reducible exact Below.refl _ _ | with_reducible refine Below.drew ?_ | (with_reducible refine Below.alloc ?_ (by first | (simp; done) | (have hq := HBW.out.size; simp at hq ⊢; omega)) _) | (with_reducible refine Below.setCell ?_ (by first | (simp; done) | (have hq := HBW.out.size; simp at hq ⊢; omega)) _))))) hq); clear hq)
                  | fail)
                all_goals
                  go_wp2
                  go_roundw
                  case rel => exact ⟨j + 1, by omega, by go_num, Lib.hid (Below.then_ HB10.out HBW.out)⟩
                  case measure => simp [intOf]; omega
            · obtain rfl : j = c.ports.length := by omega
              have HB11 := Lib.hid (Below.then_ HB8.out HBj.out)
              go_wp2
              go_roundw
              case rel => exact ⟨k + 1, by omega, HF.out, by go_num, HB11⟩
              case measure => simp [intOf]; omega
      · obtain rfl : k = c.ports.length := by omega
        have HB6 := Lib.hid ST.out.bel
        have hall := fedTo_all HRR.out.rb
        have HALL := Lib.hid hall
        clear hall
        have hix : ∀ (a0 a1 a2 a3 a4 a5 a6 : Int) (W : World), (Instr.index 57 (.agg #[.int .i64 a0, .int .i64 a1, .int .i64 a2, .int .i64 a3, .int .i64 a4, .int .i64 a5, .int .i64 a6]) (.int .i64 6)).run Tryz.prog W = .ok (.int .i64 a6) W := fun a0 a1 a2 a3 a4 a5 a6 W => by kernel_rfl
        go_wp2_with fail
        refine (alive_ok _).mono ?_
        rintro e w9 ⟨rfl, hb9⟩
        have ST9 := Lib.hid (ST.out.up hb9)
        clear hb9
        obtain ⟨x0, x1, x2, x3, x4, x5, hz⟩ := ST9.out.cells
        go_wp2_with fail
        refine (counts_ok c _ _ _ _ _ _ _ _ _ _ _ ST9.out.R HSM.out).mono ?_
        rintro e w11 ⟨rfl, hb11⟩
        have HZ := Lib.hid (ST9.out.up hb11).bel
        clear hb11 x0 x1 x2 x3 x4 x5 hz
        rw [HALL.out]
        go_wp2
        go_ret
        exact ⟨rfl, HZ.out⟩
  · have H1 := Lib.hid h1
    clear h1
    go_enter Tryz.func6, Tryz.ntmps6
    go_upto_region 1 with (fail)
    rw [HW.out]
    go_wp2_with fail
    refine (goodR_ok c _ _ _ _ _ _ _ _ _ _ _ ST0.out.R HSM.out false H1).mono ?_
    rintro e w1 ⟨rfl, hb1⟩
    have HB1 := Lib.hid (ST0.out.up hb1).bel
    clear hb1 x0 x1 x2 x3 x4 x5 hz
    go_wp2_with fail
    refine (alive_ok _).mono ?_
    rintro e w2 ⟨rfl, hb2⟩
    have HZ := Lib.hid (Below.then_ HB1.out hb2)
    clear hb2
    go_wp2
    go_ret
    exact ⟨rfl, HZ.out⟩
end Go.Proofs.YthnbgbocanpkjaaGreat
