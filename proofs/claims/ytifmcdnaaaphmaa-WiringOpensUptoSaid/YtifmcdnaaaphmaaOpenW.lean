/-
  What Open of package wiring returns, walked: the identifiers of ports that are no end of a channel, ascending.
-/
import Derived.Test.YtifmcdnaaaphmaaKeysU
import Derived.Test.YtifmcdnaaaphmaaRef18o
namespace Go.Proofs.Ytifmcdnaaaphmaa
open Go.RowKit Go.Maps
attribute [local go_sem] ext_cell
def hasP (l : List Prt) (y : Int) : Bool := l.any fun p => p.id == y
def endB (l : List Chn) (y : Int) : Bool := l.any fun x => y == x.source || hasI x.dests y
theorem hasP_next {l : List Prt} {k : Nat} {p : Prt} (h : l[k]? = some p) : (fun y => hasP (l.take k) y || y == p.id) = hasP (l.take (k + 1)) := by
  funext y
  rw [take_next h]
  unfold hasP
  rw [List.any_append]
  simp only [List.any_cons, List.any_nil, Bool.or_false]
  congr 1
  exact Bool.eq_iff_iff.2 (by simp; exact ⟨fun e => e.symm, fun e => e.symm⟩)
structure OpnSt (w W : World) (b n : Nat) (S : Int → Bool) (c : Cfg) (A1 A2 A3 A4 A5 : Option Addr) (c1 c2 c3 c4 c5 : Nat) : Prop where
  st : St w W c A1 A2 A3 A4 A5 c1 c2 c3 c4 c5
  mp : SetU W b n S
  bz : w.heap.size < b
section
variable {w W V : World} {b n m : Nat} {S S' : Int → Bool} {c : Cfg} {A1 A2 A3 A4 A5 : Option Addr} {c1 c2 c3 c4 c5 : Nat}
theorem OpnSt.up (h : OpnSt w W b n S c A1 A2 A3 A4 A5 c1 c2 c3 c4 c5) (hb : Below W.heap.size W V) : OpnSt w V b n S c A1 A2 A3 A4 A5 c1 c2 c3 c4 c5 := ⟨h.st.up hb, h.mp.up hb, h.bz⟩
theorem OpnSt.turn (h : OpnSt w W b n S c A1 A2 A3 A4 A5 c1 c2 c3 c4 c5) (hm : SetU V b m S') (hg : W.grownBy V (some b)) : OpnSt w V b m S' c A1 A2 A3 A4 A5 c1 c2 c3 c4 c5 := by
  have hz := h.st.z
  have hbz := h.bz
  exact ⟨h.st.keep ((Below.refl _ _).grown hg (by omega) (fun k hk => by injection hk with hk; omega)), hm, h.bz⟩
end
/-- the ports that are no end of the first k channels, nor the source nor one of the first m destinations of the next -/
def opnS (c : Cfg) (k : Nat) (y : Int) : Bool := hasP c.ports y && !endB (c.chans.take k) y
def opnD (c : Cfg) (k : Nat) (x : Chn) (m : Nat) (y : Int) : Bool := (opnS c k y && !(y == x.source)) && !(hasI (x.dests.take m) y)
theorem opnD_zero (c : Cfg) (k : Nat) (x : Chn) : (fun y => opnS c k y && !(y == x.source)) = opnD c k x 0 := by
  funext y; simp [opnD, hasI]
theorem opnD_next {c : Cfg} {k : Nat} {x : Chn} {m : Nat} {d : Int} (h : x.dests[m]? = some d) : (fun y => opnD c k x m y && !(y == d)) = opnD c k x (m + 1) := by
  funext y
  unfold opnD
  rw [take_next h]
  have : hasI (x.dests.take m ++ [d]) y = (hasI (x.dests.take m) y || y == d) := by
    rw [Bool.eq_iff_iff]
    simp [hasI]
  rw [this, Bool.not_or, Bool.and_assoc]
theorem opnD_end {c : Cfg} {k : Nat} {x : Chn} (h : c.chans[k]? = some x) : opnD c k x x.dests.length = opnS c (k + 1) := by
  funext y
  unfold opnD opnS
  rw [take_next h, List.take_length]
  unfold endB
  rw [List.any_append]
  simp only [List.any_cons, List.any_nil, Bool.or_false, Bool.not_or, Bool.and_assoc]
theorem opnS_zero (c : Cfg) : hasP (c.ports.take c.ports.length) = opnS c 0 := by
  funext y; rw [List.take_length]; simp [opnS, endB]
set_option maxRecDepth 100000 in
set_option maxHeartbeats 8000000 in
theorem wOpen_ok (c : Cfg) (A1 A2 A3 A4 A5 : Option Addr) (c1 c2 c3 c4 c5 : Nat) (w : World) (hR : CfgR w w.heap.size c A1 A2 A3 A4 A5 c1 c2 c3 c4 c5) (hs : c.small) (hok : c.ok) : Calls Try.prog 26 #[cfgV c.frame A1 A2 A3 A4 A5 c.parts.length c.wins.length c.regs.length c.ports.length c.chans.length c1 c2 c3 c4 c5] w fun e w' => ∃ (v : Value) (l : List Int), e = .returned v ∧ (l.Pairwise (· < ·) ∧ ∀ x, x ∈ l ↔ opnS c c.chans.length x = true) ∧ w'.ownsRow w.heap.size 38 1 v l.length (l.map (Value.int .u16)) ∧ Below w.heap.size w w' := by
  obtain ⟨W0, hW, st⟩ := St.start_any hR 29
  have HW := Lib.hid hW
  have ST0 := Lib.hid st
  have HOK := Lib.hid hok
  have hbd := hs.bd
  have bt := hbd.t
  have bx := hbd.x
  have HDL := Lib.hid hbd.d
  have hmm := @run_makeMap Try.prog
  obtain ⟨x0, x1, x2, x3, x4, x5, hz⟩ := st.cells
  clear hR hW st hok hbd
  go_enter Try.func26, Try.ntmps26
  go_upto_region 1 with (fail)
  rw [HW.out]
  go_upto_region 2 with (fail)
  have hm0 := SetU.made W0
  have hb0 := below_one W0 (.map #[] 0)
  generalize World.alloc W0 _ = W1 at hm0 hb0 ⊢
  have OS1 := Lib.hid (OpnSt.mk (ST0.out.up hb0) hm0 ST0.out.z)
  clear hm0 hb0 hmm x0 x1 x2 x3 x4 x5 hz
  obtain ⟨x0, x1, x2, x3, x4, x5, hz⟩ := OS1.out.st.cells
  generalize W0.heap.size = b at OS1 ⊢
  go_wp2
  clear x0 x1 x2 x3 x4 x5 hz
  go_loopw [14] (fun i wr => ∃ k : Nat, k ≤ c.ports.length ∧ i = .int .i64 k ∧ Hid (OpnSt w wr b k (hasP (c.ports.take k)) c A1 A2 A3 A4 A5 c1 c2 c3 c4 c5)) (fun i _ => c.ports.length - (intOf i).toNat)
  case atStart => exact ⟨0, Nat.zero_le _, rfl, OS1⟩
  case round =>
    obtain ⟨k, hk, rfl, OS⟩ := hrel
    by_cases hlt : k < c.ports.length
    · obtain ⟨p, hp⟩ := get_lt hlt
      have hpu : wU16 p.id := (HOK.out.ports p (List.mem_of_getElem? hp)).id
      obtain ⟨x0, x1, x2, x3, x4, x5, hz⟩ := OS.out.st.cells
      obtain ⟨bb, o, rfl, hbb, g0, g1, g2, g3, g4, g5⟩ := prt_at OS.out.st.R.ports hp
      have HP := Lib.hid hp
      have k0 : (0 : Int) ≤ (k : Int) := by omega
      have k1 : (k : Int) < (c.ports.length : Int) := by omega
      clear hp
      go_upto_region 5 with (fail)
      obtain ⟨W4, hW4, pb, hb4⟩ := PtBox.new wr p 43
      rw [hW4]
      have OS4 := Lib.hid (OS.out.up hb4)
      obtain ⟨p0, p1, p2, p3, p4, p5, hg⟩ := pb
      obtain ⟨w5, hput, hm5, hg5, hs5⟩ := OS4.out.mp.put (by unfold maxLen; omega) hpu
      have OS5 := Lib.hid (OS4.out.turn hm5 hg5)
      have HN := Lib.hid (hasP_next HP.out)
      clear hW4 hb4 g0 g1 g2 g3 g4 g5 x0 x1 x2 x3 x4 x5 hz hbb hm5 hg5
      go_wp2
      go_roundw
      case rel => exact ⟨k + 1, by omega, by go_num, Lib.hid (by rw [← HN.out]; exact OS5.out)⟩
      case measure => simp [intOf]; omega
    · obtain rfl : k = c.ports.length := by omega
      obtain ⟨x0, x1, x2, x3, x4, x5, hz⟩ := OS.out.st.cells
      have OSA := Lib.hid (show OpnSt w wr b c.ports.length (opnS c 0) c A1 A2 A3 A4 A5 c1 c2 c3 c4 c5 by rw [← opnS_zero]; exact OS.out)
      go_wp2
      clear x0 x1 x2 x3 x4 x5 hz
      go_loopw [25] (fun i wr => ∃ k : Nat, k ≤ c.chans.length ∧ i = .int .i64 k ∧ Hid (OpnSt w wr b c.ports.length (opnS c k) c A1 A2 A3 A4 A5 c1 c2 c3 c4 c5)) (fun i _ => c.chans.length - (intOf i).toNat)
      case atStart => exact ⟨0, Nat.zero_le _, rfl, OSA⟩
      case round =>
        obtain ⟨k, hk, rfl, OS⟩ := hrel
        by_cases hlt : k < c.chans.length
        · obtain ⟨x, hx⟩ := get_lt hlt
          have hxo := HOK.out.chans x (List.mem_of_getElem? hx)
          have hxl := HDL.out x (List.mem_of_getElem? hx)
          have HXO := Lib.hid hxo
          have hsu : wU16 x.source := hxo.source
          obtain ⟨x0, x1, x2, x3, x4, x5, hz⟩ := OS.out.st.cells
          obtain ⟨cs, hC, hr⟩ := OS.out.st.R.chans
          obtain ⟨bb, o, rfl, hbb, g0, g1, D, d, g2, hd1, hd2, hD⟩ := chn_at hC hr hx
          have HX := Lib.hid hx
          have HD := Lib.hid hD
          have k0 : (0 : Int) ≤ (k : Int) := by omega
          have k1 : (k : Int) < (c.chans.length : Int) := by omega
          clear hx hC hr hD hxo
          go_upto_region 10 with (fail)
          obtain ⟨W4, hW4, cb, hb4⟩ := ChBox.new wr x D d 55
          rw [hW4]
          have OS4 := Lib.hid (OS.out.up hb4)
          have HD4 := Lib.hid (HD.out.up hb4)
          have CB4 := Lib.hid cb
          obtain ⟨p0, p1, p2, hg⟩ := cb
          obtain ⟨w5, hdel, hm5, hg5, hs5⟩ := OS4.out.mp.del hsu 0
          have OS5 := Lib.hid (OS4.out.turn hm5 hg5)
          rw [opnD_zero] at OS5
          have HD5 := Lib.hid (HD4.out.grown2 hg5 (fun _ _ _ hc => OS4.out.mp.ne hc))
          have CB5 := Lib.hid (CB4.out.grown hg5 (fun _ _ _ hc => OS4.out.mp.ne hc))
          obtain ⟨q0, q1, q2, hq⟩ := CB5.out
          clear hW4 hb4 g0 g1 g2 x0 x1 x2 x3 x4 x5 hz hbb hm5 hg5
          clear p0 p2 q0 q1 q2 hq
          go_upto_region 11 with (fail)
          clear p1 hdel hg
          obtain ⟨q0, q1, q2, hq⟩ := CB5.out
          clear q0 q1
          generalize hwo : w5 = wo at OS5 HD5 CB5 q2 hq ⊢
          clear hwo
          go_wp2
          clear q2
          go_loopw [9, 35] (fun _ i wr' => ∃ m : Nat, m ≤ x.dests.length ∧ i = .int .i64 m ∧ Hid (OpnSt w wr' b c.ports.length (opnD c k x m) c A1 A2 A3 A4 (some ⟨bb, o, none⟩) c1 c2 c3 c4 c5) ∧ Hid (Rd wr' wr'.heap.size 1 D x.dests.length (x.dests.map (Value.int .u16)))) (fun _ i _ => x.dests.length - (intOf i).toNat)
          case atStart => exact ⟨0, Nat.zero_le _, rfl, OS5, HD5⟩
          case round =>
            obtain ⟨m, hm, rfl, OSm, HDm⟩ := hrel
            by_cases hml : m < x.dests.length
            · obtain ⟨y, hy⟩ := get_lt hml
              have hyu : wU16 y := HXO.out.dests y (List.mem_of_getElem? hy)
              obtain ⟨db, dof, rfl, hdb, hy0⟩ := int_at HDm.out hy
              have HY := Lib.hid hy
              obtain ⟨w6, hdel, hm6, hg6, hs6⟩ := OSm.out.mp.del hyu 0
              have OS6 := Lib.hid (OSm.out.turn hm6 hg6)
              have HD6 := Lib.hid (HDm.out.grown2 hg6 (fun _ _ _ hc => OSm.out.mp.ne hc))
              have HN := Lib.hid (opnD_next (c := c) (k := k) HY.out)
              have m0 : (0 : Int) ≤ (m : Int) := by omega
              have m1 : (m : Int) < (x.dests.length : Int) := by omega
              clear hy hm6 hg6
              go_wp2
              go_roundw
              case rel => exact ⟨m + 1, by omega, by go_num, Lib.hid (by rw [← HN.out]; exact OS6.out), HD6⟩
              case measure => simp [intOf]; omega
            · obtain rfl : m = x.dests.length := by omega
              have HN := Lib.hid (opnD_end (c := c) HX.out)
              go_wp2
              go_roundw
              case rel => exact ⟨k + 1, by omega, by go_num, Lib.hid (by rw [← HN.out]; exact OSm.out)⟩
              case measure => simp [intOf]; omega
        · obtain rfl : k = c.chans.length := by omega
          obtain ⟨x0, x1, x2, x3, x4, x5, hz⟩ := OS.out.st.cells
          clear x0 x1 x2 x3 x4 x5 hz
          go_wp2_with fail
          refine (keysU_ok b wr).mono ?_
          rintro e w1 ⟨rfl, rfl⟩
          have hb1 := below_one wr (.cells #[.map (some b)] 75)
          have OS1 := Lib.hid (OS.out.up hb1)
          have hm1 : (wr.alloc (.cells #[.map (some b)] 75)).cell? ⟨wr.heap.size, 0, none⟩ = some (.map (some b)) := by simp only [World.cell?, World.alloc_heap_new]; rfl
          have hlt1 : wr.heap.size < (wr.alloc (.cells #[.map (some b)] 75)).heap.size := by rw [World.size_alloc]; omega
          go_wp2_with fail
          refine (sortedU_ok hlt1 hm1 OS1.out.mp (by omega)).mono ?_
          rintro e w2 ⟨v, l, rfl, hl, hrow, hb2⟩
          have HL := Lib.hid hl
          have HR := Lib.hid (own_less hrow (Nat.le_of_lt OS1.out.st.z))
          have HB := Lib.hid (OS1.out.st.bel.trans (hb2.mono (Nat.le_of_lt OS1.out.st.z)))
          clear hl hrow hb2
          go_wp2
          go_ret
          exact ⟨_, l, rfl, HL.out, HR.out, HB.out⟩
end Go.Proofs.Ytifmcdnaaaphmaa
