/-
  The methods Route, Source, Port, Named and Ports of a router, walked once.
-/
import Derived.Test.YthnbgbocanpkjaaGreatRoutS
import Derived.Test.YthnbgbocanpkjaaGreatWirB
import Derived.Test.YthnbgbocanpkjaaGreatCore
namespace Go.Proofs.YthnbgbocanpkjaaGreat
open Go.RowKit Go.Lib
open Go.Maps (Keyed)
attribute [local go_sem] ext_cell
theorem getv_rt (L : List CE) (id : Int) : getv (rtE L) id = (L.find? (fun e => e.x.source == id)).map CE.v := by
  induction L with
  | nil => rfl
  | cons e r ih =>
    unfold rtE at ih ⊢
    rw [List.map_cons, getv, List.find?_cons]
    by_cases h : e.x.source = id
    · rw [if_pos h]; simp [h]
    · rw [if_neg h, ih]
      have : (e.x.source == id) = false := by simpa using h
      rw [this]
theorem rt_cases {c : Cfg} {L : List CE} (hl : L.map (·.x) = c.norm.chans) (hr : rightB c = true) (id : Int) : (getv (rtE L) id = none ∧ routeOf c id = []) ∨ ∃ e ∈ L, getv (rtE L) id = some e.v ∧ e.x.dests = routeOf c id := by
  have hn := route_norm hr id
  rw [← hl, find_map] at hn
  rw [getv_rt]
  rcases h : L.find? (fun e => e.x.source == id) with _ | e
  · refine .inl ⟨by rw [h]; rfl, ?_⟩
    rw [h] at hn
    rcases h2 : c.chans.find? (fun x => x.source == id) with _ | x
    · exact route_none h2
    · rw [h2] at hn; cases hn
  · refine .inr ⟨e, List.mem_of_find?_eq_some h, by rw [h]; rfl, ?_⟩
    rw [h] at hn
    rcases h2 : c.chans.find? (fun x => x.source == id) with _ | x
    · rw [h2] at hn; cases hn
    · rw [h2] at hn
      rw [route_some h2]
      simpa using hn
/-- what the lookup of a route leaves: a slice that reads as the route -/
theorem rt_look {c : Cfg} {W : World} {B m1 : Nat} {N5 : Option Addr} {L : List CE} (hl : L.map (·.x) = c.norm.chans) (hr : rightB c = true) (hch : ChL W B N5 L) (hm : MapIs W Tryz.prog 34 kU vV m1 (rtE L)) {id : Int} (hid : wU16 id) :
    ∃ (D : Option Addr) (d : Nat), (Instr.lookup 73 (.map (some m1)) (.int .u16 id) false).run Tryz.prog W = .ok (.slice D (routeOf c id).length d) W ∧ (routeOf c id).length ≤ d ∧ d ≤ maxLen ∧ Rd W B 1 D (routeOf c id).length ((routeOf c id).map (Value.int .u16)) := by
  obtain ⟨l, hkl⟩ := keyU hid
  have hn : ((rtE L).map (·.1)).Nodup := by
    have := rtE_nodup hl (norm_src hr) L.length
    rwa [List.take_length] at this
  rcases hm.look lawU Tryz.underlying73 (zeroUs _) kU_inj hn hkl with ⟨h1, hr1⟩ | ⟨v, h1, hr1⟩
  · have q := hr1 false
    simp only [Bool.false_eq_true, if_false, kU] at q
    rcases rt_cases hl hr id with ⟨_, h2⟩ | ⟨e, _, h2, _⟩
    · rw [h2]
      exact ⟨none, 0, q, Nat.le_refl _, Nat.zero_le _, Rd.nil⟩
    · rw [h2] at h1; cases h1
  · have q := hr1 false
    simp only [Bool.false_eq_true, if_false, kU] at q
    rcases rt_cases hl hr id with ⟨h2, _⟩ | ⟨e, he, h2, h3⟩
    · rw [h2] at h1; cases h1
    · rw [h2] at h1
      injection h1 with h1
      subst h1
      obtain ⟨k1, k2, k3⟩ := hch.rd e he
      rw [← h3]
      exact ⟨e.A, e.c, q, k1, k2, k3⟩
theorem rt_open {c : Cfg} (hr : RightR c) {W : World} {B gr : Nat} (h : RtAt W B gr c.norm) {id : Int} (hid : wU16 id) :
    ∃ (m1 : Nat) (D : Option Addr) (d : Nat), gr < B ∧ W.cell? ⟨gr, 7, none⟩ = some (.map (some m1)) ∧ (Instr.lookup 73 (.map (some m1)) (.int .u16 id) false).run Tryz.prog W = .ok (.slice D (routeOf c id).length d) W ∧ (routeOf c id).length ≤ d ∧ d ≤ maxLen ∧ Rd W B 1 D (routeOf c id).length ((routeOf c id).map (Value.int .u16)) := by
  obtain ⟨hl, gi, m1, m2, N1, N2, N3, N4, N5, n1, n2, n3, n4, n5, L, l1, l2, lx, y4, y6, y7, y8, hR, hch, hi, r1, r2⟩ := h
  obtain ⟨D, d, hq, hd1, hd2, hD⟩ := rt_look lx hr.rb hch r1 hid
  exact ⟨m1, D, d, hl, y7, hq, hd1, hd2, hD⟩
theorem route_len {c : Cfg} (hs : c.small) (id : Int) : (routeOf c id).length ≤ 1048576 := by
  rcases h2 : c.chans.find? (fun x => x.source == id) with _ | x
  · rw [route_none h2]; simp
  · rw [route_some h2]
    have := hs.bd.d x (List.mem_of_find?_eq_some h2)
    unfold sortD
    simpa using this
set_option maxRecDepth 100000 in
set_option maxHeartbeats 4000000 in
theorem mRoute_ok (c : Cfg) (hr : RightR c) (hs : c.small) (gr : Nat) (id : Int) (hid : wU16 id) (w : World) (h : RtAt w w.heap.size gr c.norm) :
    Calls Tryz.prog 25 #[.pointer (some ⟨gr, 0, none⟩), .int .u16 id] w fun e w' => ∃ v, e = .returned v ∧ w'.ownsRow w.heap.size 34 1 v (routeOf c id).length ((routeOf c id).map (Value.int .u16)) ∧ Below w.heap.size w w' := by
  obtain ⟨hl, gi, m1, m2, N1, N2, N3, N4, N5, n1, n2, n3, n4, n5, L, l1, l2, lx, y4, y6, y7, y8, hR, hch, hi, r1, r2⟩ := h
  obtain ⟨D, d, hq, hd1, hd2, hD⟩ := rt_look lx hr.rb hch r1 hid
  have hlen := route_len hs id
  generalize routeOf c id = l at *
  have HD := Lib.hid hD
  have HN := Lib.hid (show D = none → l = [] from fun e => by subst e; exact List.length_eq_zero_iff.1 (rd_none hD))
  clear hD hR hch hi r1 r2 lx hs hr y4 y6 y8
  go_enter Tryz.func25, Tryz.ntmps25
  go_wp2_with fail
  refine (clone16_ok l D d _ (by omega) HD.out HN.out).mono ?_
  rintro e w1 ⟨v, rfl, ho, hb⟩
  go_wp2
  go_ret
  exact ⟨v, rfl, ho, hb⟩
set_option maxRecDepth 100000 in
set_option maxHeartbeats 1000000 in
theorem mRoute_nil (id : Int) (w : World) : Calls Tryz.prog 25 #[.pointer none, .int .u16 id] w fun e w' => e = .returned (.slice none 0 0) ∧ Below w.heap.size w w' := by
  go_enter Tryz.func25, Tryz.ntmps25
  go_wp2
  go_ret
  exact ⟨rfl, Below.refl _ _⟩
set_option maxRecDepth 100000 in
set_option maxHeartbeats 4000000 in
theorem mSource_ok (c : Cfg) (hr : RightR c) (gr : Nat) (id : Int) (hid : wU16 id) (w : World) (h : RtAt w w.heap.size gr c.norm) (s : Int) (b : Bool) (hv : Hid (fromOf c id = (s, b))) :
    Calls Tryz.prog 23 #[.pointer (some ⟨gr, 0, none⟩), .int .u16 id] w fun e w' => e = .returned (.tuple #[.int .u16 s, .bool b]) ∧ Below w.heap.size w w' := by
  obtain ⟨hl, gi, m1, m2, N1, N2, N3, N4, N5, n1, n2, n3, n4, n5, L, l1, l2, lx, y4, y6, y7, y8, hR, hch, hi, r1, r2⟩ := h
  obtain ⟨l, hkl⟩ := keyU hid
  have hf := getv_from c.norm id
  rw [from_norm hr.rb, hv.out] at hf
  rcases r2.look lawU Tryz.underlying74 (zeroU _) kU_inj (srcPairs_nodup (norm_dst hr.rb)) hkl with ⟨h1, hr1⟩ | ⟨v, h1, hr1⟩
  · have q := hr1 true
    simp only [if_true, kU] at q
    rw [h1] at hf
    injection hf with e1 e2
    subst e1 e2
    clear hR hch hi r1 r2 lx hr y4 y6 y7 hr1
    go_enter Tryz.func23, Tryz.ntmps23
    go_wp2
    go_ret2
    exact ⟨rfl, Below.refl _ _⟩
  · have q := hr1 true
    simp only [if_true, kU] at q
    rw [h1] at hf
    injection hf with e1 e2
    subst e1 e2
    clear hR hch hi r1 r2 lx hr y4 y6 y7 hr1
    go_enter Tryz.func23, Tryz.ntmps23
    go_wp2
    go_ret2
    exact ⟨rfl, Below.refl _ _⟩
set_option maxRecDepth 100000 in
set_option maxHeartbeats 1000000 in
theorem mSource_nil (id : Int) (w : World) : Calls Tryz.prog 23 #[.pointer none, .int .u16 id] w fun e w' => e = .returned (.tuple #[.int .u16 0, .bool false]) ∧ Below w.heap.size w w' := by
  go_enter Tryz.func23, Tryz.ntmps23
  go_wp2
  go_ret2
  exact ⟨rfl, Below.refl _ _⟩
set_option maxRecDepth 100000 in
set_option maxHeartbeats 4000000 in
theorem mAt_none (gr : Nat) (w : World) : Calls Tryz.prog 47 #[.pointer (some ⟨gr, 0, none⟩), .int .i64 (-1)] w fun e w' => e = .returned (.tuple #[prtV noPrt, .bool false]) ∧ Below w.heap.size w w' := by
  obtain ⟨W0, hW, hk0, hb0⟩ : ∃ W, w.alloc (.cells #[.int .u16 0, .int .u16 0, .string ⟨#[]⟩, .bool false, .bool false, .int .u32 0] 41) = W ∧ Blk W w.heap.size 41 #[.int .u16 0, .int .u16 0, .string ⟨#[]⟩, .bool false, .bool false, .int .u32 0] ∧ Below w.heap.size w W := ⟨_, rfl, Blk.new' _ _ _ _ (by simp), below_one _ _⟩
  have HW := Lib.hid hW
  have HK := Lib.hid hk0
  have HB2 := Lib.hid hb0
  clear hW hk0 hb0
  have hk := HK.out
  have q0 := hk.cell 0
  have q1 := hk.cell 1
  have q2 := hk.cell 2
  have q3 := hk.cell 3
  have q4 := hk.cell 4
  have q5 := hk.cell 5
  have qf := hk.frozen
  have hkz := hk.lt
  simp at q0 q1 q2 q3 q4 q5
  clear hk
  go_enter Tryz.func47, Tryz.ntmps47
  go_upto_region 1 with (fail)
  rw [HW.out]
  go_wp2
  refine bodyPost_ret (v := .tuple #[prtV noPrt, .bool false]) (by simp [results, Tryz.results47, go_sem, noPrt, q0, q1, q2, q3, q4, q5]) rfl ⟨rfl, ?_⟩
  (repeat (first | with_reducible exact HB2.out | with_reducible exact Below.refl _ _ | with_reducible refine Below.drew ?_ | (with_reducible refine Below.setCell ?_ (by simp) _) | (with_reducible refine Below.alloc ?_ (by have hq := HB2.out.size; simp; omega) _)))
set_option maxRecDepth 100000 in
set_option maxHeartbeats 4000000 in
theorem mAt_some (n : Cfg) (gr : Nat) (w : World) (h : RtAt w w.heap.size gr n) (k : Nat) (p : Prt) (hk : n.ports[k]? = some p) : Calls Tryz.prog 47 #[.pointer (some ⟨gr, 0, none⟩), .int .i64 k] w fun e w' => e = .returned (.tuple #[prtV p, .bool true]) ∧ Below w.heap.size w w' := by
  obtain ⟨W0, hW, hk0, hb0⟩ : ∃ W, w.alloc (.cells #[.int .u16 0, .int .u16 0, .string ⟨#[]⟩, .bool false, .bool false, .int .u32 0] 41) = W ∧ Blk W w.heap.size 41 #[.int .u16 0, .int .u16 0, .string ⟨#[]⟩, .bool false, .bool false, .int .u32 0] ∧ Below w.heap.size w W := ⟨_, rfl, Blk.new' _ _ _ _ (by simp), below_one _ _⟩
  have HW := Lib.hid hW
  have HK := Lib.hid hk0
  have HB2 := Lib.hid hb0
  clear hW hk0 hb0
  have hkl : k < n.ports.length := (List.getElem?_eq_some_iff.1 hk).1
  obtain ⟨hl, gi, m1, m2, N1, N2, N3, N4, N5, n1, n2, n3, n4, n5, L, l1, l2, lx, y4, y6, y7, y8, hR, hch, hi, r1, r2⟩ := h.up HB2.out
  obtain ⟨b, o, rfl, hb, p0, p1, p2, p3, p4, p5⟩ := prt_at hR.ports hk
  have m0 : (0 : Int) ≤ (k : Int) := by omega
  have mm : (k : Int) < (n.ports.length : Int) := by omega
  have mneg : decide ((k : Int) < 0) = false := decide_eq_false (by omega)
  clear hR hch hi r1 r2 lx y6 y7 y8 h hk
  have hk := HK.out
  have q0 := hk.cell 0
  have q1 := hk.cell 1
  have q2 := hk.cell 2
  have q3 := hk.cell 3
  have q4 := hk.cell 4
  have q5 := hk.cell 5
  have qf := hk.frozen
  have hkz := hk.lt
  simp at q0 q1 q2 q3 q4 q5
  clear hk
  go_enter Tryz.func47, Tryz.ntmps47
  go_upto_region 1 with (fail)
  rw [HW.out]
  go_wp2
  refine bodyPost_ret (v := .tuple #[prtV p, .bool true]) (by simp [results, Tryz.results47, go_sem, q0, q1, q2, q3, q4, q5]) rfl ⟨rfl, ?_⟩
  (repeat (first | with_reducible exact HB2.out | with_reducible exact Below.refl _ _ | with_reducible refine Below.drew ?_ | (with_reducible refine Below.setCell ?_ (by simp) _) | (with_reducible refine Below.alloc ?_ (by have hq := HB2.out.size; simp; omega) _)))
set_option maxRecDepth 100000 in
set_option maxHeartbeats 4000000 in
theorem mPort_ok (c : Cfg) (hr : RightR c) (gr : Nat) (id : Int) (hid : wU16 id) (w : World) (h : RtAt w w.heap.size gr c.norm) (p : Prt) (b : Bool) (hv : Hid (portAns (portOf c id) = (p, b))) :
    Calls Tryz.prog 28 #[.pointer (some ⟨gr, 0, none⟩), .int .u16 id] w fun e w' => e = .returned (.tuple #[prtV p, .bool b]) ∧ Below w.heap.size w w' := by
  obtain ⟨W0, hW, hk0, hb0⟩ : ∃ W, w.alloc (.cells #[.int .u16 0, .int .u16 0, .string ⟨#[]⟩, .bool false, .bool false, .int .u32 0] 41) = W ∧ Blk W w.heap.size 41 #[.int .u16 0, .int .u16 0, .string ⟨#[]⟩, .bool false, .bool false, .int .u32 0] ∧ Below w.heap.size w W := ⟨_, rfl, Blk.new' _ _ _ _ (by simp), below_one _ _⟩
  have HW := Lib.hid hW
  have HK := Lib.hid hk0
  have HB2 := Lib.hid hb0
  clear hW hk0 hb0
  have H := Lib.hid (h.up HB2.out)
  obtain ⟨hl, gi, m1, m2, N1, N2, N3, N4, N5, n1, n2, n3, n4, n5, L, l1, l2, lx, y4, y6, y7, y8, hR, hch, hi, r1, r2⟩ := h.up HB2.out
  have hpn := port_norm (unique_parts (right_parts hr.rb).1).2.1 id
  have HI := Lib.hid hi
  rcases idx_cases (fun y => y.id == id) c.norm.ports with ⟨h1, h2⟩ | ⟨k, q, h1, hk, h3, h4, h5⟩
  · rw [← hpn, show portOf c.norm id = none from h2] at hv
    have hv := hv.out
    injection hv with e1 e2
    subst e1 e2
    have HX := Lib.hid h1
    clear hR hch hi r1 r2 lx y4 y7 y8 hpn h1 h2 h
    have hkz := HK.out.lt
    go_enter Tryz.func28, Tryz.ntmps28
    go_upto_region 1 with (fail)
    rw [HW.out]
    go_wp2_with fail
    refine (iPort_val c.norm gi id _ HI.out hid (-1) HX).mono ?_
    rintro e w1 ⟨rfl, hb1⟩
    have HB3 := Lib.hid (Below.then_ HB2.out hb1)
    have HK1 := Lib.hid (HK.out.below hb1 HK.out.lt)
    clear hb1 hkz y6
    go_wp2_with fail
    refine (mAt_none gr _).mono ?_
    rintro e w2 ⟨rfl, hb2⟩
    have HB4 := Lib.hid (Below.then_ HB3.out hb2)
    have hk := HK1.out.below hb2 HK1.out.lt
    clear hb2
    have q0 := hk.cell 0
    have q1 := hk.cell 1
    have q2 := hk.cell 2
    have q3 := hk.cell 3
    have q4 := hk.cell 4
    have q5 := hk.cell 5
    have qf := hk.frozen
    have hkz := hk.lt
    simp at q0 q1 q2 q3 q4 q5
    clear hk
    go_wp2
    refine bodyPost_ret (v := .tuple #[prtV noPrt, .bool false]) (by simp [results, Tryz.results28, go_sem, noPrt, q0, q1, q2, q3, q4, q5]) rfl ⟨rfl, ?_⟩
    (repeat (first | with_reducible exact HB4.out | with_reducible exact Below.refl _ _ | with_reducible refine Below.drew ?_ | (with_reducible refine Below.setCell ?_ (by simp) _) | (with_reducible refine Below.alloc ?_ (by have hq := HB4.out.size; simp; omega) _)))
  · rw [← hpn, show portOf c.norm id = some q from h4] at hv
    have hv := hv.out
    injection hv with e1 e2
    subst e1 e2
    have HX := Lib.hid h1
    have HP := Lib.hid h3
    clear hR hch hi r1 r2 lx y4 y7 y8 hpn h1 h4 h5 h3 h hk
    have hkz := HK.out.lt
    go_enter Tryz.func28, Tryz.ntmps28
    go_upto_region 1 with (fail)
    rw [HW.out]
    go_wp2_with fail
    refine (iPort_val c.norm gi id _ HI.out hid k HX).mono ?_
    rintro e w1 ⟨rfl, hb1⟩
    have HB3 := Lib.hid (Below.then_ HB2.out hb1)
    have HK1 := Lib.hid (HK.out.below hb1 HK.out.lt)
    have H1 := Lib.hid (H.out.up hb1)
    clear hb1 hkz y6
    go_wp2_with fail
    refine (mAt_some c.norm gr _ H1.out k q HP.out).mono ?_
    rintro e w2 ⟨rfl, hb2⟩
    have HB4 := Lib.hid (Below.then_ HB3.out hb2)
    have hk := HK1.out.below hb2 HK1.out.lt
    clear hb2
    have q0 := hk.cell 0
    have q1 := hk.cell 1
    have q2 := hk.cell 2
    have q3 := hk.cell 3
    have q4 := hk.cell 4
    have q5 := hk.cell 5
    have qf := hk.frozen
    have hkz := hk.lt
    simp at q0 q1 q2 q3 q4 q5
    clear hk
    go_wp2
    refine bodyPost_ret (v := .tuple #[prtV q, .bool true]) (by simp [results, Tryz.results28, go_sem, q0, q1, q2, q3, q4, q5]) rfl ⟨rfl, ?_⟩
    (repeat (first | with_reducible exact HB4.out | with_reducible exact Below.refl _ _ | with_reducible refine Below.drew ?_ | (with_reducible refine Below.setCell ?_ (by simp) _) | (with_reducible refine Below.alloc ?_ (by have hq := HB4.out.size; simp; omega) _)))
set_option maxRecDepth 100000 in
set_option maxHeartbeats 1000000 in
theorem mPort_nil (id : Int) (w : World) : Calls Tryz.prog 28 #[.pointer none, .int .u16 id] w fun e w' => e = .returned (.tuple #[prtV noPrt, .bool false]) ∧ Below w.heap.size w w' := by
  obtain ⟨W0, hW, hk0, hb0⟩ : ∃ W, w.alloc (.cells #[.int .u16 0, .int .u16 0, .string ⟨#[]⟩, .bool false, .bool false, .int .u32 0] 41) = W ∧ Blk W w.heap.size 41 #[.int .u16 0, .int .u16 0, .string ⟨#[]⟩, .bool false, .bool false, .int .u32 0] ∧ Below w.heap.size w W := ⟨_, rfl, Blk.new' _ _ _ _ (by simp), below_one _ _⟩
  have HW := Lib.hid hW
  have HK := Lib.hid hk0
  have HB2 := Lib.hid hb0
  clear hW hk0 hb0
  have hk := HK.out
  have q0 := hk.cell 0
  have q1 := hk.cell 1
  have q2 := hk.cell 2
  have q3 := hk.cell 3
  have q4 := hk.cell 4
  have q5 := hk.cell 5
  have qf := hk.frozen
  have hkz := hk.lt
  simp at q0 q1 q2 q3 q4 q5
  clear hk
  go_enter Tryz.func28, Tryz.ntmps28
  go_upto_region 1 with (fail)
  rw [HW.out]
  go_wp2
  refine bodyPost_ret (v := .tuple #[prtV noPrt, .bool false]) (by simp [results, Tryz.results28, go_sem, noPrt, q0, q1, q2, q3, q4, q5]) rfl ⟨rfl, ?_⟩
  (repeat (first | with_reducible exact HB2.out | with_reducible exact Below.refl _ _ | with_reducible refine Below.drew ?_ | (with_reducible refine Below.setCell ?_ (by simp) _) | (with_reducible refine Below.alloc ?_ (by have hq := HB2.out.size; simp; omega) _)))
theorem iNamed_val (c : Cfg) (g : Nat) (id : Int) (s : ByteArray) (w : World) (h : IdxAt w w.heap.size g c) (hid : wU16 id) (hs : s.size ≤ maxLen) (v : Int) (hv : Hid (idx (fun x => x.part == id && x.name == s) c.ports = v)) :
    Calls Tryz.prog 48 #[.pointer (some ⟨g, 0, none⟩), .int .u16 id, .string s] w fun e w' => e = .returned (.int .i64 v) ∧ Below w.heap.size w w' := by
  have h := iNamed_ok c g id s w h hid hs
  rwa [hv.out] at h
set_option maxRecDepth 100000 in
set_option maxHeartbeats 4000000 in
theorem mNamed_ok (c : Cfg) (hr : RightR c) (gr : Nat) (id : Int) (hid : wU16 id) (s : ByteArray) (hsz : s.size ≤ maxLen) (w : World) (h : RtAt w w.heap.size gr c.norm) (p : Prt) (b : Bool) (hv : Hid (portAns (namedOf c id s) = (p, b))) :
    Calls Tryz.prog 21 #[.pointer (some ⟨gr, 0, none⟩), .int .u16 id, .string s] w fun e w' => e = .returned (.tuple #[prtV p, .bool b]) ∧ Below w.heap.size w w' := by
  obtain ⟨W0, hW, hk0, hb0⟩ : ∃ W, w.alloc (.cells #[.int .u16 0, .int .u16 0, .string ⟨#[]⟩, .bool false, .bool false, .int .u32 0] 41) = W ∧ Blk W w.heap.size 41 #[.int .u16 0, .int .u16 0, .string ⟨#[]⟩, .bool false, .bool false, .int .u32 0] ∧ Below w.heap.size w W := ⟨_, rfl, Blk.new' _ _ _ _ (by simp), below_one _ _⟩
  have HW := Lib.hid hW
  have HK := Lib.hid hk0
  have HB2 := Lib.hid hb0
  clear hW hk0 hb0
  have H := Lib.hid (h.up HB2.out)
  obtain ⟨hl, gi, m1, m2, N1, N2, N3, N4, N5, n1, n2, n3, n4, n5, L, l1, l2, lx, y4, y6, y7, y8, hR, hch, hi, r1, r2⟩ := h.up HB2.out
  have hpn := named_norm hr.tk id s
  have HI := Lib.hid hi
  rcases idx_cases (fun x => x.part == id && x.name == s) c.norm.ports with ⟨h1, h2⟩ | ⟨k, q, h1, hk, h3, h4, h5⟩
  · rw [← hpn, show namedOf c.norm id s = none from h2] at hv
    have hv := hv.out
    injection hv with e1 e2
    subst e1 e2
    have HX := Lib.hid h1
    clear hR hch hi r1 r2 lx y4 y7 y8 hpn h1 h2 h
    have hkz := HK.out.lt
    go_enter Tryz.func21, Tryz.ntmps21
    go_upto_region 1 with (fail)
    rw [HW.out]
    go_wp2_with fail
    refine (iNamed_val c.norm gi id s _ HI.out hid hsz (-1) HX).mono ?_
    rintro e w1 ⟨rfl, hb1⟩
    have HB3 := Lib.hid (Below.then_ HB2.out hb1)
    have HK1 := Lib.hid (HK.out.below hb1 HK.out.lt)
    clear hb1 hkz y6
    go_wp2_with fail
    refine (mAt_none gr _).mono ?_
    rintro e w2 ⟨rfl, hb2⟩
    have HB4 := Lib.hid (Below.then_ HB3.out hb2)
    have hk := HK1.out.below hb2 HK1.out.lt
    clear hb2
    have q0 := hk.cell 0
    have q1 := hk.cell 1
    have q2 := hk.cell 2
    have q3 := hk.cell 3
    have q4 := hk.cell 4
    have q5 := hk.cell 5
    have qf := hk.frozen
    have hkz := hk.lt
    simp at q0 q1 q2 q3 q4 q5
    clear hk
    go_wp2
    refine bodyPost_ret (v := .tuple #[prtV noPrt, .bool false]) (by simp [results, Tryz.results21, go_sem, noPrt, q0, q1, q2, q3, q4, q5]) rfl ⟨rfl, ?_⟩
    (repeat (first | with_reducible exact HB4.out | with_reducible exact Below.refl _ _ | with_reducible refine Below.drew ?_ | (with_reducible refine Below.setCell ?_ (by simp) _) | (with_reducible refine Below.alloc ?_ (by have hq := HB4.out.size; simp; omega) _)))
  · rw [← hpn, show namedOf c.norm id s = some q from h4] at hv
    have hv := hv.out
    injection hv with e1 e2
    subst e1 e2
    have HX := Lib.hid h1
    have HP := Lib.hid h3
    clear hR hch hi r1 r2 lx y4 y7 y8 hpn h1 h4 h5 h3 h hk
    have hkz := HK.out.lt
    go_enter Tryz.func21, Tryz.ntmps21
    go_upto_region 1 with (fail)
    rw [HW.out]
    go_wp2_with fail
    refine (iNamed_val c.norm gi id s _ HI.out hid hsz k HX).mono ?_
    rintro e w1 ⟨rfl, hb1⟩
    have HB3 := Lib.hid (Below.then_ HB2.out hb1)
    have HK1 := Lib.hid (HK.out.below hb1 HK.out.lt)
    have H1 := Lib.hid (H.out.up hb1)
    clear hb1 hkz y6
    go_wp2_with fail
    refine (mAt_some c.norm gr _ H1.out k q HP.out).mono ?_
    rintro e w2 ⟨rfl, hb2⟩
    have HB4 := Lib.hid (Below.then_ HB3.out hb2)
    have hk := HK1.out.below hb2 HK1.out.lt
    clear hb2
    have q0 := hk.cell 0
    have q1 := hk.cell 1
    have q2 := hk.cell 2
    have q3 := hk.cell 3
    have q4 := hk.cell 4
    have q5 := hk.cell 5
    have qf := hk.frozen
    have hkz := hk.lt
    simp at q0 q1 q2 q3 q4 q5
    clear hk
    go_wp2
    refine bodyPost_ret (v := .tuple #[prtV q, .bool true]) (by simp [results, Tryz.results21, go_sem, q0, q1, q2, q3, q4, q5]) rfl ⟨rfl, ?_⟩
    (repeat (first | with_reducible exact HB4.out | with_reducible exact Below.refl _ _ | with_reducible refine Below.drew ?_ | (with_reducible refine Below.setCell ?_ (by simp) _) | (with_reducible refine Below.alloc ?_ (by have hq := HB4.out.size; simp; omega) _)))
set_option maxRecDepth 100000 in
set_option maxHeartbeats 1000000 in
theorem mNamed_nil (id : Int) (s : ByteArray) (w : World) : Calls Tryz.prog 21 #[.pointer none, .int .u16 id, .string s] w fun e w' => e = .returned (.tuple #[prtV noPrt, .bool false]) ∧ Below w.heap.size w w' := by
  obtain ⟨W0, hW, hk0, hb0⟩ : ∃ W, w.alloc (.cells #[.int .u16 0, .int .u16 0, .string ⟨#[]⟩, .bool false, .bool false, .int .u32 0] 41) = W ∧ Blk W w.heap.size 41 #[.int .u16 0, .int .u16 0, .string ⟨#[]⟩, .bool false, .bool false, .int .u32 0] ∧ Below w.heap.size w W := ⟨_, rfl, Blk.new' _ _ _ _ (by simp), below_one _ _⟩
  have HW := Lib.hid hW
  have HK := Lib.hid hk0
  have HB2 := Lib.hid hb0
  clear hW hk0 hb0
  have hk := HK.out
  have q0 := hk.cell 0
  have q1 := hk.cell 1
  have q2 := hk.cell 2
  have q3 := hk.cell 3
  have q4 := hk.cell 4
  have q5 := hk.cell 5
  have qf := hk.frozen
  have hkz := hk.lt
  simp at q0 q1 q2 q3 q4 q5
  clear hk
  go_enter Tryz.func21, Tryz.ntmps21
  go_upto_region 1 with (fail)
  rw [HW.out]
  go_wp2
  refine bodyPost_ret (v := .tuple #[prtV noPrt, .bool false]) (by simp [results, Tryz.results21, go_sem, noPrt, q0, q1, q2, q3, q4, q5]) rfl ⟨rfl, ?_⟩
  (repeat (first | with_reducible exact HB2.out | with_reducible exact Below.refl _ _ | with_reducible refine Below.drew ?_ | (with_reducible refine Below.setCell ?_ (by simp) _) | (with_reducible refine Below.alloc ?_ (by have hq := HB2.out.size; simp; omega) _)))
set_option maxRecDepth 100000 in
set_option maxHeartbeats 1000000 in
theorem mPorts_nil (id : Int) (w : World) : Calls Tryz.prog 29 #[.pointer none, .int .u16 id] w fun e w' => e = .returned (.slice none 0 0) ∧ Below w.heap.size w w' := by
  go_enter Tryz.func29, Tryz.ntmps29
  go_wp2
  go_ret
  exact ⟨rfl, Below.refl _ _⟩
/-- the ports of a partition among the first k -/
def portsTo (c : Cfg) (id : Int) (k : Nat) : List Int := ((c.ports.take k).filter (fun x => x.part == id)).map (·.id)
theorem portsTo_yes {c : Cfg} {id : Int} {k : Nat} {x : Prt} (h : c.ports[k]? = some x) (hp : (x.part == id) = true) : portsTo c id (k + 1) = portsTo c id k ++ [x.id] := by
  unfold portsTo; rw [take_next h, List.filter_append]; simp [hp]
theorem portsTo_no {c : Cfg} {id : Int} {k : Nat} {x : Prt} (h : c.ports[k]? = some x) (hp : (x.part == id) = false) : portsTo c id (k + 1) = portsTo c id k := by
  unfold portsTo; rw [take_next h, List.filter_append]; simp [hp]
theorem portsTo_len (c : Cfg) (id : Int) (k : Nat) : (portsTo c id k).length ≤ k := by
  unfold portsTo; rw [List.length_map]; exact Nat.le_trans (List.length_filter_le _ _) (by simp; omega)
theorem portsTo_all (c : Cfg) (id : Int) : portsTo c id c.ports.length = portsOf c id := by unfold portsTo portsOf; rw [List.take_length]
theorem one_newP (w : World) (a : Int) (t : TypeId) : Rd (w.alloc (.cells #[.int .u16 a] t)) (w.alloc (.cells #[.int .u16 a] t)).heap.size 1 (some ⟨w.heap.size, 0, none⟩) 1 [.int .u16 a] := by
  refine ⟨rfl, fun _ => ⟨_, _, rfl, by simp, fun j u hu => ?_⟩⟩
  have := World.news_of_block (heap_alloc_new w (.cells #[.int .u16 a] t)) j u (by simpa using hu)
  rwa [addr_add] at this
set_option maxRecDepth 100000 in
set_option maxHeartbeats 4000000 in
theorem mPorts_ok (n : Cfg) (hs : n.small) (gr : Nat) (id : Int) (w : World) (h : RtAt w w.heap.size gr n) :
    Calls Tryz.prog 29 #[.pointer (some ⟨gr, 0, none⟩), .int .u16 id] w fun e w' => ∃ v, e = .returned v ∧ w'.ownsRow w.heap.size 34 1 v (portsOf n id).length ((portsOf n id).map (Value.int .u16)) ∧ Below w.heap.size w w' := by
  obtain ⟨i0, hi0, hz0, hz1, hz2⟩ := info_parts info_u16
  have bt := hs.bd.t
  have hgr := h.lt
  obtain ⟨gi, m1, m2, N1, N2, N3, N4, N5, n1, n2, n3, n4, n5, L, l1, l2, lx, y4, y6, y7, y8, hR, hch, hi, r1, r2⟩ := h.ex
  have HT := Lib.hid hR.ports
  clear hR hch hi r1 r2 lx y6 y7 y8 h hs
  go_enter Tryz.func29, Tryz.ntmps29
  go_upto_region 5 with (fail)
  clear y4 hgr
  go_loopw [5, 16] (fun o i wr => ∃ k : Nat, k ≤ n.ports.length ∧ i = .int .i64 k ∧ Hid (wr.ownsRow w.heap.size 34 1 o (portsTo n id k).length ((portsTo n id k).map (Value.int .u16))) ∧ Hid (Below w.heap.size w wr)) (fun _ i _ => n.ports.length - (intOf i).toNat)
  case atStart => exact ⟨0, Nat.zero_le _, rfl, Lib.hid (World.ownsRow_nil _ _ _ _), Lib.hid (Below.refl _ _)⟩
  case round =>
    obtain ⟨k, hk, rfl, HO, HB⟩ := hrel
    by_cases hlt : k < n.ports.length
    · obtain ⟨x, hx⟩ := get_lt hlt
      have HX := Lib.hid hx
      obtain ⟨b, oo, rfl, hb, p0, p1, p2, p3, p4, p5⟩ := prt_at (HT.out.up HB.out) hx
      have k0 : (0 : Int) ≤ (k : Int) := by omega
      have k1 : (k : Int) < (n.ports.length : Int) := by omega
      have hlen := portsTo_len n id k
      obtain ⟨W2, hW2, pt, hb2⟩ := PtBox.new wr x 41
      have HW2 := Lib.hid hW2
      have HB2 := Lib.hid (Below.then_ HB.out hb2)
      have HO2 := Lib.hid (own_below HO.out hb2)
      obtain ⟨z0, z1, z2, z3, z4, z5, hz⟩ := pt
      clear hx hW2 hb2
      go_upto_region 7 with (fail)
      rw [HW2.out]
      clear p0 p1 p2 p3 p4 p5 hb
      rcases Bool.eq_false_or_eq_true (x.part == id) with hu | hu
      · have HN := Lib.hid (portsTo_yes HX.out hu)
        obtain ⟨rA, rc, rfl, _⟩ := own_form HO2.out
        have HR3 := Lib.hid (own_below HO2.out (below_one W2 (.cells #[.int .u16 x.id] 34)))
        have hsz := HB2.out.size
        go_wp2_with (at_builtin; go_loud (refine wpList_append_rd _ rfl (.tmp 24) (.tmp 27) _ rfl w.heap.size 34 i0 (.int .u16 0) 1 2 Tryz.underlying36 hi0 hz0 hz1 hz2 rfl (by decide) _ _ _ rfl HR3.out (W2.alloc (.cells #[.int .u16 x.id] 34)).heap.size (some ⟨W2.heap.size, 0, none⟩) 1 1 [.int .u16 x.id] rfl (one_newP W2 x.id 34) (by intro u hu; simp at hu; subst hu; rfl) (by unfold maxLen; omega) (by omega) (by simp; omega) ?_); intro v' w3 hown hg)
        have hb3 := below_own ((Below.refl w.heap.size W2).alloc (by omega) (.cells #[.int .u16 x.id] 34)) hg HR3.out (by simp; omega)
        have HO3 := Lib.hid (show w3.ownsRow w.heap.size 34 1 v' (portsTo n id (k + 1)).length ((portsTo n id (k + 1)).map (Value.int .u16)) by rw [HN.out]; simpa using hown)
        have HB3 := Lib.hid (HB2.out.trans hb3)
        clear hown hg hb3
        go_wp2
        go_roundw
        case rel => exact ⟨k + 1, by omega, by go_num, HO3, HB3⟩
        case measure => simp [intOf]; omega
      · have HN := Lib.hid (portsTo_no HX.out hu)
        go_wp2
        go_roundw
        case rel => exact ⟨k + 1, by omega, by go_num, Lib.hid (by rw [HN.out]; exact HO2.out), HB2⟩
        case measure => simp [intOf]; omega
    · obtain rfl : k = n.ports.length := by omega
      go_wp2
      go_ret
      exact ⟨_, rfl, by rw [← portsTo_all]; exact HO.out, HB.out⟩
/-- the code of a message of n bytes -/
def sendCode (c : Cfg) (id : Int) (n : Nat) : Int := match portOf c id with
  | none => 19
  | some p => if p.output = false then 25 else if p.size < (n : Int) then 11 else if (routeOf c id).length = 0 then 28 else 0
theorem send_none {c : Cfg} {id : Int} {n : Nat} (h : portOf c id = none) : sendCode c id n = 19 := by unfold sendCode; rw [h]
theorem send_dir {c : Cfg} {id : Int} {n : Nat} {p : Prt} (h : portOf c id = some p) (ho : p.output = false) : sendCode c id n = 25 := by unfold sendCode; rw [h]; exact if_pos ho
theorem send_long {c : Cfg} {id : Int} {n : Nat} {p : Prt} (h : portOf c id = some p) (ho : p.output = true) (hl : p.size < (n : Int)) : sendCode c id n = 11 := by
  unfold sendCode; rw [h]; simp only; rw [if_neg (by simp [ho]), if_pos hl]
theorem send_empty {c : Cfg} {id : Int} {n : Nat} {p : Prt} (h : portOf c id = some p) (ho : p.output = true) (hl : ¬ p.size < (n : Int)) (hr : (routeOf c id).length = 0) : sendCode c id n = 28 := by
  unfold sendCode; rw [h]; simp only; rw [if_neg (by simp [ho]), if_neg hl, if_pos hr]
theorem send_ok {c : Cfg} {id : Int} {n : Nat} {p : Prt} (h : portOf c id = some p) (ho : p.output = true) (hl : ¬ p.size < (n : Int)) (hr : ¬ (routeOf c id).length = 0) : sendCode c id n = 0 := by
  unfold sendCode; rw [h]; simp only; rw [if_neg (by simp [ho]), if_neg hl, if_neg hr]
end Go.Proofs.YthnbgbocanpkjaaGreat
