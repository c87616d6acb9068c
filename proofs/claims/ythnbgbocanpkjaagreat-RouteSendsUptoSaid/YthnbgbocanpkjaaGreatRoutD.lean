/-
  Send of a router, walked once, whatever the function does that it delivers to. No condition beyond the router's.
-/
import Derived.BigQuiet
import Derived.Deep.RegionHeld3
import Derived.Test.YthnbgbocanpkjaaGreatRoutF
import Derived.Test.YthnbgbocanpkjaaGreatInvC
namespace Go.Proofs.YthnbgbocanpkjaaGreat
open Go.RowKit Go.Lib
attribute [local go_sem] ext_cell
theorem info_u8 : (Tryz.prog.info? 5).map (fun i => (i.zero, i.size, i.bytes)) = some (some (.int .u8 0), 1, 1) := by kernel_rfl
theorem bytes_oneCell (l : List Int) : ∀ u ∈ l.map (Value.int .u8), u.oneCell' = true := by
  intro u hu; obtain ⟨x, _, rfl⟩ := List.mem_map.1 hu; rfl
set_option maxRecDepth 100000 in
set_option maxHeartbeats 1000000 in
theorem clone8_ok (l : List Int) (A : Option Addr) (c : Nat) (w : World) (hl : l.length ≤ 4194304) (hP : Rd w w.heap.size 1 A l.length (l.map (Value.int .u8))) (hA : A = none → l = []) :
    Calls Tryz.prog 99 #[.slice A l.length c] w fun e w' => ∃ v, e = .returned v ∧ w'.ownsRow w.heap.size 5 1 v l.length (l.map (Value.int .u8)) ∧ Below w.heap.size w w' := by
  obtain ⟨i0, hi, hz0, hz1, hz2⟩ := info_parts info_u8
  have qT : ∀ (w : World) (a : Option Addr) (n c n' c' : Nat), (binOp .eql 35 (.slice a n c) (.slice none n' c')).run Tryz.prog w = .ok (.bool a.isNone) w := fun w a n c n' c' => Lib.run_eql_slice_nil w _ _ a n c n' c' Tryz.underlying35
  rcases A with _ | ad
  · have hn := hA rfl
    subst hn
    go_enter Tryz.func99, Tryz.ntmps99
    go_wp2
    go_ret
    exact ⟨_, rfl, by simpa using World.ownsRow_nil _ _ _ _, Below.refl _ _⟩
  · have HO := Lib.hid (World.ownsRow_made (e := 5) (size := 1) w #[] 0 (Nat.le_refl _) (Nat.zero_le _) rfl)
    have HR := Lib.hid ((hP.alloc (Nat.le_refl _) (.cells #[] 5)))
    clear hP hA
    go_enter Tryz.func99, Tryz.ntmps99
    go_wp2_with (at_builtin; refine wpList_append_rd _ rfl (.tmp 5) (.tmp 6) _ rfl w.heap.size 5 i0 (.int .u8 0) 1 1 Tryz.underlying35 hi hz0 hz1 hz2 rfl (by decide) _ 0 [] rfl HO.out w.heap.size (some ad) l.length c _ rfl HR.out (bytes_oneCell l) (by unfold maxLen; omega) (by omega) (by simp) ?_; intro v' w1 hown hg)
    go_ret
    refine ⟨_, rfl, by simpa using hown, ?_⟩
    exact below_own ((Below.refl w.heap.size w).alloc (Nat.le_refl _) _) hg HO.out (by simp)
set_option maxRecDepth 100000 in
set_option maxHeartbeats 1000000 in
theorem to_nil (M : Option Addr) (m cm : Nat) (p : Prt) (w : World) : Calls Tryz.prog 44 #[.agg #[.slice M m cm, .nilFunc], prtV p] w fun e w' => e = .returned (.tuple #[]) ∧ Below w.heap.size w w' := by
  have hnf : ∀ W, (binOp .neq 45 .nilFunc .nilFunc).run Tryz.prog W = .ok (.bool false) W := fun W => by kernel_rfl
  go_enter Tryz.func44, Tryz.ntmps44
  go_wp2
  go_end0
  exact ⟨rfl, (by repeat (first | with_reducible exact Below.refl _ _ | with_reducible refine Below.drew ?_ | (with_reducible refine Below.alloc ?_ (by simp) _) | (with_reducible refine Below.setCell ?_ (by simp) _)))⟩
set_option maxRecDepth 100000 in
set_option maxHeartbeats 4000000 in
theorem to_fn (fk : FuncId) (caps : Array Value) (hent : ∀ a w, (callFunc fk a).run Tryz.prog w = .ok (.enter fk a) w) (l : List Int) (M : Option Addr) (cm : Nat) (hl : l.length ≤ 4194304) (hA : M = none → l = []) (p : Prt) (w : World) (hM : Rd w w.heap.size 1 M l.length (l.map (Value.int .u8))) (Q : World → Prop)
    (hF : ∀ W v, Below w.heap.size w W → W.ownsRow w.heap.size 5 1 v l.length (l.map (Value.int .u8)) → Calls Tryz.prog fk (#[prtV p, v] ++ caps) W fun e V => e = .returned (.tuple #[]) ∧ Q V) :
    Calls Tryz.prog 44 #[.agg #[.slice M l.length cm, .func (.func fk) #[] caps], prtV p] w fun e V => e = .returned (.tuple #[]) ∧ Q V := by
  obtain ⟨W1, hW1⟩ : ∃ W1, w.alloc (.cells #[.slice M l.length cm, .func (.func fk) #[] caps] 80) = W1 := ⟨_, rfl⟩
  have hb1 : Below w.heap.size w W1 := by rw [← hW1]; exact below_one _ _
  have hk1 : Blk W1 w.heap.size 80 #[.slice M l.length cm, .func (.func fk) #[] caps] := by rw [← hW1]; exact Blk.new _ _ _
  obtain ⟨W2, hW2, pt, hb2⟩ := PtBox.new W1 p 41
  have e1z : W1.heap.size = w.heap.size + 1 := by rw [← hW1]; simp
  rw [e1z] at pt
  have HW1 := Lib.hid hW1
  have HW2 := Lib.hid hW2
  have HB2 := Lib.hid (Below.then_ hb1 hb2)
  have HM := Lib.hid (hM.up (Below.then_ hb1 hb2))
  have hk2 := hk1.below hb2 hk1.lt
  have HK := Lib.hid hk2
  have HPT := Lib.hid pt
  have HF := Lib.hid hF
  have HA := Lib.hid hA
  clear hW1 hb1 hk1 hW2 hb2 hM hk2 pt hF hA e1z
  have KEEP : ∀ U, Below W2.heap.size W2 U → (fun U => U.cell? ⟨w.heap.size, 0, none⟩ = some (.slice M l.length cm) ∧ U.cell? ⟨w.heap.size, 1, none⟩ = some (.func (.func fk) #[] caps) ∧ U.cell? ⟨w.heap.size + 1, 0, none⟩ = some (.int .u16 p.id) ∧ U.cell? ⟨w.heap.size + 1, 1, none⟩ = some (.int .u16 p.part) ∧ U.cell? ⟨w.heap.size + 1, 2, none⟩ = some (.string p.name) ∧ U.cell? ⟨w.heap.size + 1, 3, none⟩ = some (.bool p.output) ∧ U.cell? ⟨w.heap.size + 1, 4, none⟩ = some (.bool p.queuing) ∧ U.cell? ⟨w.heap.size + 1, 5, none⟩ = some (.int .u32 p.size)) U := fun U hU => by
    have hk := HK.out.below hU HK.out.lt
    have e0 := hk.cell 0
    have e1 := hk.cell 1
    simp at e0 e1
    obtain ⟨z0, z1, z2, z3, z4, z5, hz⟩ := HPT.out.up hU
    exact ⟨e0, e1, z0, z1, z2, z3, z4, z5⟩
  have HKP := Lib.hid KEEP
  have HBW := Lib.hid (Below.refl W2.heap.size W2)
  obtain ⟨e0, e1, z0, z1, z2, z3, z4, z5⟩ := KEEP W2 (Below.refl _ _)
  clear KEEP
  have hnf : ∀ W, (binOp .neq 45 (.func (.func fk) #[] caps) .nilFunc).run Tryz.prog W = .ok (.bool true) W := fun W => by kernel_rfl
  go_enter Tryz.func44, Tryz.ntmps44
  go_upto_region 1 with (fail)
  rw [HW1.out, HW2.out]
  go_upto_region 2 with (fail)
  clear e0 e1 z0 z1 z2 z3 z4 z5
  refine wp_region_C 7 6 _ rfl rfl (by kernel_rfl) (by kernel_rfl) (by kernel_rfl) (by kernel_rfl) (by kernel_rfl) (Nat.le_of_ble_eq_true (by kernel_rfl))
    [.pointer (some ⟨w.heap.size, 1, none⟩), .func (.func fk) #[] caps, prtV p, .pointer (some ⟨w.heap.size, 0, none⟩), .slice M l.length cm]
    (fun i => i == 5) (fun _ v U => U.ownsRow w.heap.size 5 1 v l.length (l.map (Value.int .u8))) (fun U => Below W2.heap.size W2 U)
    ((Below.refl _ _).drew) (fun U V hU hb => Below.then_ hU hb) (fun _ v U V _ hv hb => own_below hv hb) ?hop ?hend
  case hop =>
    intro i o ho hi U hE ρ r0 rf r1 r2
    obtain ⟨e0, e1, z0, z1, z2, z3, z4, z5⟩ := HKP.out U hE
    match i, ho with
    | 0, ho =>
      cases ho
      have q := r1 2 (by decide)
      refine RunsTo.val _ (V := U) ?_ ⟨Below.refl _ _, SC.ofV rfl⟩
      simp only [execOp]
      go_simp
    | 1, ho =>
      cases ho
      have q : ρ (.tmp (7 + 0)) = _ := (r2 { on := 0, ground := .data } (by simp) rfl).val rfl
      refine RunsTo.val _ (V := U) ?_ ⟨Below.refl _ _, SC.ofV rfl⟩
      simp only [execOp]
      go_simp
    | 2, ho =>
      cases ho
      have q := r1 3 (by decide)
      refine RunsTo.val _ (V := U) ?_ ⟨Below.refl _ _, SC.ofV rfl⟩
      simp only [execOp]
      go_simp
    | 3, ho =>
      cases ho
      have q := r1 2 (by decide)
      refine RunsTo.val _ (V := U) ?_ ⟨Below.refl _ _, SC.ofV rfl⟩
      simp only [execOp]
      go_simp
    | 4, ho =>
      cases ho
      have q : ρ (.tmp (7 + 3)) = _ := (r2 { on := 3, ground := .data } (by simp) rfl).val rfl
      refine RunsTo.val _ (V := U) ?_ ⟨Below.refl _ _, SC.ofV rfl⟩
      simp only [execOp]
      go_simp
    | 5, ho =>
      cases ho
      have q : ρ (.tmp (7 + 4)) = _ := (r2 { on := 4, ground := .data } (by simp) rfl).val rfl
      refine RunsTo.call (V := U) 99 #[.slice M l.length cm] ?_ ?_
      · simp only [execOp]
        go_simp
      · refine (clone8_ok l M cm U hl (HM.out.up hE) HA.out).mono ?_
        rintro e V ⟨v, rfl, hv, hb⟩
        exact ⟨v, rfl, hb, SC.ofP rfl (own_lessC hv (Nat.le_trans HB2.out.size hE.size))⟩
    | k + 6, ho => omega
  case hend =>
    intro u U hE hS ρ hρ r0 rf r1 r2 Kk hK
    have q1 : ρ (.tmp 8) = _ := (r2 1 (by decide)).trans ((hS 1 (by decide)).val rfl)
    have q2 : ρ (.tmp 9) = _ := (r2 2 (by decide)).trans ((hS 2 (by decide)).val rfl)
    have q5 : ρ (.tmp 12) = _ := r2 5 (by decide)
    have hv := (hS 5 (by decide)).got rfl
    refine RunsTo.wp ?_
    rw [← hρ]
    clear hρ
    refine RunsTo.call fk (#[prtV p, u 5] ++ caps) (V := U) ?_ ?_
    · simp only [execOp]
      go_simp
    · refine (HF.out U (u 5) (Below.then_ HB2.out hE) hv).mono ?_
      rintro e V ⟨rfl, hQ⟩
      refine ⟨_, rfl, hK _ _ ?_⟩
      go_end0
      exact ⟨rfl, hQ⟩
theorem route_mem {c : Cfg} {id d : Int} (h : d ∈ routeOf c id) : ∃ x ∈ c.chans, d ∈ x.dests := by
  rcases h2 : c.chans.find? (fun x => x.source == id) with _ | x
  · rw [route_none h2] at h; cases h
  · rw [route_some h2] at h
    exact ⟨x, List.mem_of_find?_eq_some h2, (List.mergeSort_perm _ _).mem_iff.1 h⟩
theorem route_port {c : Cfg} (hr : rightB c = true) {id d : Int} (h : d ∈ routeOf c id) : ∃ p, portOf c d = some p := by
  obtain ⟨x, hx, hd⟩ := route_mem h
  obtain ⟨i, hi⟩ := List.mem_iff_getElem?.1 hx
  obtain ⟨k, hk⟩ := List.mem_iff_getElem?.1 hd
  obtain ⟨p, hp, _⟩ := (right_good (right_parts hr).2.2 hi).dst k d hk
  exact ⟨p, hp⟩
theorem route_u16 {c : Cfg} (hok : c.ok) {id d : Int} (h : d ∈ routeOf c id) : wU16 d := by
  obtain ⟨x, hx, hd⟩ := route_mem h
  exact (hok.chans x hx).dests d hd
/-- the ports that a message is delivered to -/
def destsOf (c : Cfg) (id : Int) : List Prt := (routeOf c id).map (thePort c)
/-- what is known of the deliveries: J k holds after the first k -/
structure DelT (w : World) (F : Value) (M : Option Addr) (m cm : Nat) (ps : List Prt) (J : Nat → World → Prop) : Prop where
  up : ∀ k W V, J k W → Below W.heap.size W V → J k V
  low : ∀ k W, J k W → Below w.heap.size w W
  to_ : ∀ k p W, ps[k]? = some p → J k W → Calls Tryz.prog 44 #[.agg #[.slice M m cm, F], prtV p] W fun e V => e = .returned (.tuple #[]) ∧ J (k + 1) V
set_option maxRecDepth 100000 in
set_option maxHeartbeats 8000000 in
theorem mSend_fn (c : Cfg) (hr : RightR c) (hs : c.small) (hok : c.ok) (gr : Nat) (id : Int) (hid : wU16 id) (M : Option Addr) (m cm : Nat) (hm : m ≤ 4194304) (fn : Fn) (fa fb : Array Value) (J : Nat → World → Prop) (w0 w : World) (hR : RtAt w0 w0.heap.size gr c.norm) (D : DelT w0 (.func fn fa fb) M m cm (destsOf c id) J) (h0 : J 0 w) (v : Int) (hv : Hid (sendCode c id m = v)) :
    Calls Tryz.prog 14 #[.pointer (some ⟨gr, 0, none⟩), .int .u16 id, .slice M m cm, .func fn fa fb] w fun e w' => e = .returned (.int .i64 v) ∧ J (if v = 0 then (destsOf c id).length else 0) w' := by
  have HR := Lib.hid hR
  have HD := Lib.hid D
  have HRR := Lib.hid hr
  have HJ0 := Lib.hid h0
  have hrt : ∀ k W, J k W → RtAt W W.heap.size gr c.norm := fun k W h => (hR.below (D.low k W h)).more (D.low k W h).size
  have HRT := Lib.hid hrt
  have hent : ∀ a w, (callFunc 44 a).run Tryz.prog w = .ok (.enter 44 a) w := enters_of Tryz.func44 (by kernel_rfl) rfl
  have HOK := Lib.hid hok
  have hm0 : (0 : Int) ≤ (m : Int) := by omega
  have hm1 : (m : Int) ≤ 4194304 := by omega
  have hw0 : IntKind.u64.wrap (m : Int) = (m : Int) := IntWalk.u64_in _ (by omega)
  clear hR D hr h0 hrt hok
  rcases hp : portOf c id with _ | p
  · have HP := Lib.hid (show portAns (portOf c id) = (noPrt, false) by rw [hp]; rfl)
    obtain rfl : v = 19 := by rw [← hv.out]; exact send_none hp
    clear hp hv hent
    go_enter Tryz.func14, Tryz.ntmps14
    go_wp2_with fail
    refine (mPort_ok c HRR.out gr id hid _ (HRT.out 0 _ HJ0.out) noPrt false HP).mono ?_
    rintro e w1 ⟨rfl, hb1⟩
    obtain ⟨W2, hW2, pt, hb2⟩ := PtBox.new w1 noPrt 41
    have HW2 := Lib.hid hW2
    have HJ2 := Lib.hid (HD.out.up 0 _ _ (HD.out.up 0 _ _ HJ0.out hb1) hb2)
    obtain ⟨m1, D1, d1, hgl, y7, hq, hd1, hd2, hD⟩ := rt_open HRR.out (HRT.out 0 _ HJ2.out) hid
    clear hb1 hW2 hb2 hD pt
    go_upto_region 4 with (fail)
    first | rw [HW2.out] | rw [show w1.alloc (.cells #[.int .u16 0, .int .u16 0, .string ⟨#[]⟩, .bool false, .bool false, .int .u32 0] 41) = W2 from HW2.out]
    go_wp2
    go_ret
    refine ⟨rfl, ?_⟩
    first | done | rw [if_neg (by decide)] | skip
    exact HJ2.out
  · have HP := Lib.hid (show portAns (portOf c id) = (p, true) by rw [hp]; rfl)
    have HPP := Lib.hid hp
    have hpb := Go.bounds_u32 (HOK.out.ports p (List.mem_of_find?_eq_some (show c.ports.find? (fun x => x.id == id) = some p from hp))).size
    have hw1 : IntKind.u64.wrap p.size = p.size := IntWalk.u64_in _ (by omega)
    clear hp
    go_enter Tryz.func14, Tryz.ntmps14
    go_wp2_with fail
    refine (mPort_ok c HRR.out gr id hid _ (HRT.out 0 _ HJ0.out) p true HP).mono ?_
    rintro e w1 ⟨rfl, hb1⟩
    obtain ⟨W2, hW2, pt, hb2⟩ := PtBox.new w1 p 41
    have HW2 := Lib.hid hW2
    have HJ2 := Lib.hid (HD.out.up 0 _ _ (HD.out.up 0 _ _ HJ0.out hb1) hb2)
    obtain ⟨m1, D1, d1, hgl, y7, hq, hd1, hd2, hD⟩ := rt_open HRR.out (HRT.out 0 _ HJ2.out) hid
    obtain ⟨m1', D1', d1', hgl', y7', hq', hd1', hd2', hD'⟩ := rt_open HRR.out (HR.out.below (HD.out.low 0 _ HJ2.out)) hid
    obtain rfl : m1 = m1' := by rw [y7] at y7'; simpa using y7'
    have hDD : D1 = D1' := by rw [hq] at hq'; simp at hq'; exact hq'.1
    subst hDD
    have HRD := Lib.hid (hD'.keep (w' := w0) fun b o hb => ((HD.out.low 0 _ HJ2.out).cell (p := ⟨b, o, none⟩) hb).symm)
    obtain ⟨z0, z1, z2, z3, z4, z5, hz⟩ := pt
    clear hb1 hW2 hb2 hD hD' hq' y7' hgl' hd1' hd2'
    go_upto_region 4 with (fail)
    rw [HW2.out]
    rcases Bool.eq_false_or_eq_true p.output with ho | ho
    · by_cases hl : p.size < (m : Int)
      · obtain rfl : v = 11 := by rw [← hv.out]; exact send_long HPP.out ho hl
        rw [ho] at z3
        clear hv hent
        go_wp2
        go_ret
        refine ⟨rfl, ?_⟩
        first | done | rw [if_neg (by decide)] | skip
        exact HJ2.out
      · by_cases hlen : (routeOf c id).length = 0
        · obtain rfl : v = 28 := by rw [← hv.out]; exact send_empty HPP.out ho hl hlen
          rw [ho] at z3
          rw [hlen] at hq
          clear hv hent
          go_wp2
          go_ret
          refine ⟨rfl, ?_⟩
          first | done | rw [if_neg (by decide)] | skip
          exact HJ2.out
        · obtain rfl : v = 0 := by rw [← hv.out]; exact send_ok HPP.out ho hl hlen
          rw [ho] at z3
          have hlb := route_len hs id
          have hl0 : (((routeOf c id).length : Int) == 0) = false := by rw [beq_eq_false_iff_ne]; omega
          have HDL := Lib.hid (show (destsOf c id).length = (routeOf c id).length by unfold destsOf; simp)
          have HPT := Lib.hid (show ∀ k d, (routeOf c id)[k]? = some d → wU16 d ∧ portAns (portOf c d) = (thePort c d, true) ∧ (destsOf c id)[k]? = some (thePort c d) from fun k d h => by
            have hm := List.mem_of_getElem? h
            obtain ⟨p, hp⟩ := route_port HRR.out.rb hm
            refine ⟨route_u16 HOK.out hm, ?_, ?_⟩
            · unfold thePort; rw [hp]; rfl
            · show ((routeOf c id).map (thePort c))[k]? = _
              rw [List.getElem?_map, h]; rfl)
          clear hv
          generalize hR : routeOf c id = ds at *
          clear hR
          go_upto_region 14 with (fail)
          clear z0 z1 z2 z3 z4 z5 hz y7 hq hgl hw0 hw1 hpb hm0 hm1 hl hm
          go_wp2_with fail
          go_loopw [56] (fun i wr => ∃ k : Nat, k ≤ ds.length ∧ i = .int .i64 k ∧ Hid (J k wr)) (fun i _ => ds.length - (intOf i).toNat)
          case atStart => exact ⟨0, Nat.zero_le _, rfl, HJ2⟩
          case round =>
            obtain ⟨k, hk, rfl, HJ⟩ := hrel
            by_cases hlt : k < ds.length
            · obtain ⟨d, hd⟩ := get_lt hlt
              obtain ⟨hdu, hpa, hpk⟩ := HPT.out k d hd
              obtain ⟨b, oo, rfl, hb, g0⟩ := int_at (HRD.out.keep (w' := wr) fun b o hb => (HD.out.low k _ HJ.out).cell (p := ⟨b, o, none⟩) hb) hd
              have hbz : b < wr.heap.size := Nat.lt_of_lt_of_le hb (HD.out.low k _ HJ.out).size
              have k0 : (0 : Int) ≤ (k : Int) := by omega
              have k1 : (k : Int) < (ds.length : Int) := by omega
              have HPA := Lib.hid hpa
              have HPK := Lib.hid hpk
              generalize thePort c d = q at *
              clear hd hpa hpk hb
              go_wp2_with fail
              refine (mPort_ok c HRR.out gr d hdu _ (HRT.out k _ HJ.out) q true HPA).mono ?_
              rintro e w3 ⟨rfl, hb3⟩
              obtain ⟨W4, hW4, pt, hb4⟩ := PtBox.new w3 q 41
              have HW4 := Lib.hid hW4
              have HJ4 := Lib.hid (HD.out.up k _ _ (HD.out.up k _ _ HJ.out hb3) hb4)
              obtain ⟨z0, z1, z2, z3, z4, z5, hz⟩ := pt
              clear hb3 hW4 hb4 g0 hbz
              go_upto_region 18 with (fail)
              rw [HW4.out]
              go_wp2_with fail
              refine (HD.out.to_ k q _ HPK.out HJ4.out).mono ?_
              rintro e w5 ⟨rfl, hj⟩
              have HJ5 := Lib.hid hj
              clear hj z0 z1 z2 z3 z4 z5 hz
              go_wp2
              go_roundw
              case rel => exact ⟨k + 1, by omega, by go_num, HJ5⟩
              case measure => simp [intOf]; omega
            · obtain rfl : k = ds.length := by omega
              go_wp2
              go_ret
              refine ⟨rfl, ?_⟩
              rw [HDL.out]
              exact HJ.out
    · obtain rfl : v = 25 := by rw [← hv.out]; exact send_dir HPP.out ho
      rw [ho] at z3
      clear hv hent
      go_wp2
      go_ret
      refine ⟨rfl, ?_⟩
      first | done | rw [if_neg (by decide)] | skip
      exact HJ2.out
set_option maxRecDepth 100000 in
set_option maxHeartbeats 8000000 in
theorem mSend_nf (c : Cfg) (hr : RightR c) (hs : c.small) (hok : c.ok) (gr : Nat) (id : Int) (hid : wU16 id) (M : Option Addr) (m cm : Nat) (hm : m ≤ 4194304) (J : Nat → World → Prop) (w0 w : World) (hR : RtAt w0 w0.heap.size gr c.norm) (D : DelT w0 .nilFunc M m cm (destsOf c id) J) (h0 : J 0 w) (v : Int) (hv : Hid (sendCode c id m = v)) :
    Calls Tryz.prog 14 #[.pointer (some ⟨gr, 0, none⟩), .int .u16 id, .slice M m cm, .nilFunc] w fun e w' => e = .returned (.int .i64 v) ∧ J (if v = 0 then (destsOf c id).length else 0) w' := by
  have HR := Lib.hid hR
  have HD := Lib.hid D
  have HRR := Lib.hid hr
  have HJ0 := Lib.hid h0
  have hrt : ∀ k W, J k W → RtAt W W.heap.size gr c.norm := fun k W h => (hR.below (D.low k W h)).more (D.low k W h).size
  have HRT := Lib.hid hrt
  have hent : ∀ a w, (callFunc 44 a).run Tryz.prog w = .ok (.enter 44 a) w := enters_of Tryz.func44 (by kernel_rfl) rfl
  have HOK := Lib.hid hok
  have hm0 : (0 : Int) ≤ (m : Int) := by omega
  have hm1 : (m : Int) ≤ 4194304 := by omega
  have hw0 : IntKind.u64.wrap (m : Int) = (m : Int) := IntWalk.u64_in _ (by omega)
  clear hR D hr h0 hrt hok
  rcases hp : portOf c id with _ | p
  · have HP := Lib.hid (show portAns (portOf c id) = (noPrt, false) by rw [hp]; rfl)
    obtain rfl : v = 19 := by rw [← hv.out]; exact send_none hp
    clear hp hv hent
    go_enter Tryz.func14, Tryz.ntmps14
    go_wp2_with fail
    refine (mPort_ok c HRR.out gr id hid _ (HRT.out 0 _ HJ0.out) noPrt false HP).mono ?_
    rintro e w1 ⟨rfl, hb1⟩
    obtain ⟨W2, hW2, pt, hb2⟩ := PtBox.new w1 noPrt 41
    have HW2 := Lib.hid hW2
    have HJ2 := Lib.hid (HD.out.up 0 _ _ (HD.out.up 0 _ _ HJ0.out hb1) hb2)
    obtain ⟨m1, D1, d1, hgl, y7, hq, hd1, hd2, hD⟩ := rt_open HRR.out (HRT.out 0 _ HJ2.out) hid
    clear hb1 hW2 hb2 hD pt
    go_upto_region 4 with (fail)
    first | rw [HW2.out] | rw [show w1.alloc (.cells #[.int .u16 0, .int .u16 0, .string ⟨#[]⟩, .bool false, .bool false, .int .u32 0] 41) = W2 from HW2.out]
    go_wp2
    go_ret
    refine ⟨rfl, ?_⟩
    first | done | rw [if_neg (by decide)] | skip
    exact HJ2.out
  · have HP := Lib.hid (show portAns (portOf c id) = (p, true) by rw [hp]; rfl)
    have HPP := Lib.hid hp
    have hpb := Go.bounds_u32 (HOK.out.ports p (List.mem_of_find?_eq_some (show c.ports.find? (fun x => x.id == id) = some p from hp))).size
    have hw1 : IntKind.u64.wrap p.size = p.size := IntWalk.u64_in _ (by omega)
    clear hp
    go_enter Tryz.func14, Tryz.ntmps14
    go_wp2_with fail
    refine (mPort_ok c HRR.out gr id hid _ (HRT.out 0 _ HJ0.out) p true HP).mono ?_
    rintro e w1 ⟨rfl, hb1⟩
    obtain ⟨W2, hW2, pt, hb2⟩ := PtBox.new w1 p 41
    have HW2 := Lib.hid hW2
    have HJ2 := Lib.hid (HD.out.up 0 _ _ (HD.out.up 0 _ _ HJ0.out hb1) hb2)
    obtain ⟨m1, D1, d1, hgl, y7, hq, hd1, hd2, hD⟩ := rt_open HRR.out (HRT.out 0 _ HJ2.out) hid
    obtain ⟨m1', D1', d1', hgl', y7', hq', hd1', hd2', hD'⟩ := rt_open HRR.out (HR.out.below (HD.out.low 0 _ HJ2.out)) hid
    obtain rfl : m1 = m1' := by rw [y7] at y7'; simpa using y7'
    have hDD : D1 = D1' := by rw [hq] at hq'; simp at hq'; exact hq'.1
    subst hDD
    have HRD := Lib.hid (hD'.keep (w' := w0) fun b o hb => ((HD.out.low 0 _ HJ2.out).cell (p := ⟨b, o, none⟩) hb).symm)
    obtain ⟨z0, z1, z2, z3, z4, z5, hz⟩ := pt
    clear hb1 hW2 hb2 hD hD' hq' y7' hgl' hd1' hd2'
    go_upto_region 4 with (fail)
    rw [HW2.out]
    rcases Bool.eq_false_or_eq_true p.output with ho | ho
    · by_cases hl : p.size < (m : Int)
      · obtain rfl : v = 11 := by rw [← hv.out]; exact send_long HPP.out ho hl
        rw [ho] at z3
        clear hv hent
        go_wp2
        go_ret
        refine ⟨rfl, ?_⟩
        first | done | rw [if_neg (by decide)] | skip
        exact HJ2.out
      · by_cases hlen : (routeOf c id).length = 0
        · obtain rfl : v = 28 := by rw [← hv.out]; exact send_empty HPP.out ho hl hlen
          rw [ho] at z3
          rw [hlen] at hq
          clear hv hent
          go_wp2
          go_ret
          refine ⟨rfl, ?_⟩
          first | done | rw [if_neg (by decide)] | skip
          exact HJ2.out
        · obtain rfl : v = 0 := by rw [← hv.out]; exact send_ok HPP.out ho hl hlen
          rw [ho] at z3
          have hlb := route_len hs id
          have hl0 : (((routeOf c id).length : Int) == 0) = false := by rw [beq_eq_false_iff_ne]; omega
          have HDL := Lib.hid (show (destsOf c id).length = (routeOf c id).length by unfold destsOf; simp)
          have HPT := Lib.hid (show ∀ k d, (routeOf c id)[k]? = some d → wU16 d ∧ portAns (portOf c d) = (thePort c d, true) ∧ (destsOf c id)[k]? = some (thePort c d) from fun k d h => by
            have hm := List.mem_of_getElem? h
            obtain ⟨p, hp⟩ := route_port HRR.out.rb hm
            refine ⟨route_u16 HOK.out hm, ?_, ?_⟩
            · unfold thePort; rw [hp]; rfl
            · show ((routeOf c id).map (thePort c))[k]? = _
              rw [List.getElem?_map, h]; rfl)
          clear hv
          generalize hR : routeOf c id = ds at *
          clear hR
          go_upto_region 14 with (fail)
          clear z0 z1 z2 z3 z4 z5 hz y7 hq hgl hw0 hw1 hpb hm0 hm1 hl hm
          go_wp2_with fail
          go_loopw [56] (fun i wr => ∃ k : Nat, k ≤ ds.length ∧ i = .int .i64 k ∧ Hid (J k wr)) (fun i _ => ds.length - (intOf i).toNat)
          case atStart => exact ⟨0, Nat.zero_le _, rfl, HJ2⟩
          case round =>
            obtain ⟨k, hk, rfl, HJ⟩ := hrel
            by_cases hlt : k < ds.length
            · obtain ⟨d, hd⟩ := get_lt hlt
              obtain ⟨hdu, hpa, hpk⟩ := HPT.out k d hd
              obtain ⟨b, oo, rfl, hb, g0⟩ := int_at (HRD.out.keep (w' := wr) fun b o hb => (HD.out.low k _ HJ.out).cell (p := ⟨b, o, none⟩) hb) hd
              have hbz : b < wr.heap.size := Nat.lt_of_lt_of_le hb (HD.out.low k _ HJ.out).size
              have k0 : (0 : Int) ≤ (k : Int) := by omega
              have k1 : (k : Int) < (ds.length : Int) := by omega
              have HPA := Lib.hid hpa
              have HPK := Lib.hid hpk
              generalize thePort c d = q at *
              clear hd hpa hpk hb
              go_wp2_with fail
              refine (mPort_ok c HRR.out gr d hdu _ (HRT.out k _ HJ.out) q true HPA).mono ?_
              rintro e w3 ⟨rfl, hb3⟩
              obtain ⟨W4, hW4, pt, hb4⟩ := PtBox.new w3 q 41
              have HW4 := Lib.hid hW4
              have HJ4 := Lib.hid (HD.out.up k _ _ (HD.out.up k _ _ HJ.out hb3) hb4)
              obtain ⟨z0, z1, z2, z3, z4, z5, hz⟩ := pt
              clear hb3 hW4 hb4 g0 hbz
              go_upto_region 18 with (fail)
              rw [HW4.out]
              go_wp2_with fail
              refine (HD.out.to_ k q _ HPK.out HJ4.out).mono ?_
              rintro e w5 ⟨rfl, hj⟩
              have HJ5 := Lib.hid hj
              clear hj z0 z1 z2 z3 z4 z5 hz
              go_wp2
              go_roundw
              case rel => exact ⟨k + 1, by omega, by go_num, HJ5⟩
              case measure => simp [intOf]; omega
            · obtain rfl : k = ds.length := by omega
              go_wp2
              go_ret
              refine ⟨rfl, ?_⟩
              rw [HDL.out]
              exact HJ.out
    · obtain rfl : v = 25 := by rw [← hv.out]; exact send_dir HPP.out ho
      rw [ho] at z3
      clear hv hent
      go_wp2
      go_ret
      refine ⟨rfl, ?_⟩
      first | done | rw [if_neg (by decide)] | skip
      exact HJ2.out
set_option maxRecDepth 100000 in
set_option maxHeartbeats 1000000 in
theorem mSend_nil (id : Int) (A : Value) (F : Value) (w : World) : Calls Tryz.prog 14 #[.pointer none, .int .u16 id, A, F] w fun e w' => e = .returned (.int .i64 1) ∧ Below w.heap.size w w' := by
  go_enter Tryz.func14, Tryz.ntmps14
  go_wp2
  go_ret
  exact ⟨rfl, Below.refl _ _⟩
end Go.Proofs.YthnbgbocanpkjaaGreat
