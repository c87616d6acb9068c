/-
  The law WiringChains, walked.
-/
import Derived.Test.YtifmcdnaaaphmaaLaw18Flows
namespace Go.Proofs.Ytifmcdnaaaphmaa
open Go.RowKit Go.Lib
attribute [local go_sem] ext_cell
theorem row_flow {c : Cfg} (hu : (c.parts.map (·.id)).Nodup) {i k : Nat} {p q : Par} {l : List Int} {m : Nat} (hp : c.parts[i]? = some p) (hl : (matRows c)[i]? = some l) (hm : l[m]? = some (k : Int)) (hq : c.parts[k]? = some q) : flowB c p.id q.id = true := by
  have key : ∀ {j : Nat} {x : Par}, c.parts[j]? = some x → idx (fun y => y.id == x.id) c.parts = (j : Int) := by
    intro j x hx
    rcases idx_cases (fun y => y.id == x.id) c.parts with ⟨_, h2⟩ | ⟨n, y, h1, h2, h3, _, h5⟩
    · have := List.find?_eq_none.1 h2 x (List.mem_of_getElem? hx)
      simp at this
    · rw [h1]
      have e1 : pid c j = x.id := pid_at hx
      have e2 : pid c n = y.id := pid_at h3
      have e3 : y.id = x.id := by simpa using h5
      have := pid_inj hu h2 (List.getElem?_eq_some_iff.1 hx).1 (by rw [e1, e2, e3])
      rw [this]
  refine flowB_yes (key hp) (key hq) (.one ?_)
  rw [rowOf_at hl]
  exact List.mem_of_getElem? hm
theorem row_in {c : Cfg} {i m : Nat} {l : List Int} {x : Int} (hl : (matRows c)[i]? = some l) (hm : l[m]? = some x) : ∃ k : Nat, x = (k : Int) ∧ k < c.parts.length := by
  have := row_range (c := c) (i := (i : Int)) x (by rw [rowOf_at hl]; exact List.mem_of_getElem? hm)
  exact this
structure ChnW (w W : World) (gp : Nat) (c : Cfg) (A1 A2 A3 A4 A5 : Option Addr) (c1 c2 c3 c4 c5 : Nat) (p : Par) : Prop where
  st : St w W c A1 A2 A3 A4 A5 c1 c2 c3 c4 c5
  bx : PaBox W gp p
theorem ChnW.up {w W V : World} {gp : Nat} {c : Cfg} {A1 A2 A3 A4 A5 : Option Addr} {c1 c2 c3 c4 c5 : Nat} {p : Par} (h : ChnW w W gp c A1 A2 A3 A4 A5 c1 c2 c3 c4 c5 p) (hb : Below W.heap.size W V) : ChnW w V gp c A1 A2 A3 A4 A5 c1 c2 c3 c4 c5 p := ⟨h.st.up hb, h.bx.up hb⟩
/-- three partitions boxed, and the rows -/
structure ChnX (w W : World) (gp gq gr : Nat) (mA : Option Addr) (c : Cfg) (A1 A2 A3 A4 A5 : Option Addr) (c1 c2 c3 c4 c5 : Nat) (p q r : Par) : Prop where
  st : St w W c A1 A2 A3 A4 A5 c1 c2 c3 c4 c5
  px : PaBox W gp p
  qx : PaBox W gq q
  rx : PaBox W gr r
  rows : RowsR W mA (matRows c)
theorem ChnX.up {w W V : World} {gp gq gr : Nat} {mA : Option Addr} {c : Cfg} {A1 A2 A3 A4 A5 : Option Addr} {c1 c2 c3 c4 c5 : Nat} {p q r : Par} (h : ChnX w W gp gq gr mA c A1 A2 A3 A4 A5 c1 c2 c3 c4 c5 p q r) (hb : Below W.heap.size W V) : ChnX w V gp gq gr mA c A1 A2 A3 A4 A5 c1 c2 c3 c4 c5 p q r := ⟨h.st.up hb, h.px.up hb, h.qx.up hb, h.rx.up hb, h.rows.up hb⟩
set_option maxRecDepth 100000 in
set_option maxHeartbeats 16000000 in
theorem wiringChains_ok (c : Cfg) (A1 A2 A3 A4 A5 : Option Addr) (c1 c2 c3 c4 c5 : Nat) (w : World) (hR : CfgR w w.heap.size c A1 A2 A3 A4 A5 c1 c2 c3 c4 c5) (hs : c.small) (hok : c.ok) : Calls Try.prog 5 #[cfgV c.frame A1 A2 A3 A4 A5 c.parts.length c.wins.length c.regs.length c.ports.length c.chans.length c1 c2 c3 c4 c5] w fun e w' => e = .returned (.bool true) ∧ Below w.heap.size w w' := by
  obtain ⟨W0, hW, st⟩ := St.start_any hR 29
  have HW := Lib.hid hW
  have ST0 := Lib.hid st
  have HOK := Lib.hid hok
  have hbd := hs.bd
  have bp := hbd.p
  obtain ⟨x0, x1, x2, x3, x4, x5, hz⟩ := st.cells
  clear hR hW st hok hbd
  rcases bool_cases (goodB c) with h1 | h1
  · have H1 := Lib.hid h1
    have hr : rightB c = true := by unfold goodB at h1; simp only [Bool.and_eq_true] at h1; exact h1.2
    have HRT := Lib.hid hr
    have HU := Lib.hid (unique_parts (right_parts hr).1).1
    clear h1 hr
    by_cases h12 : 8 < c.parts.length
    · have m12 : decide ((8 : Int) < (c.parts.length : Int)) = true := decide_eq_true (by omega)
      go_enter Try.func5, Try.ntmps5
      go_upto_region 1 with (fail)
      rw [HW.out]
      go_wp2_with fail
      refine (good_val c _ _ _ _ _ _ _ _ _ _ _ ST0.out.R hs true H1).mono ?_
      rintro e w1 ⟨rfl, hb1⟩
      have ST1 := Lib.hid (ST0.out.up hb1)
      clear hb1 x0 x1 x2 x3 x4 x5 hz
      obtain ⟨x0, x1, x2, x3, x4, x5, hz⟩ := ST1.out.cells
      go_wp2_with fail
      refine (alive_ok _).mono ?_
      rintro e w2 ⟨rfl, hb2⟩
      have HZ := Lib.hid (ST1.out.up hb2).bel
      clear hb2 x0 x1 x2 x3 x4 x5 hz
      go_wp2
      go_ret
      exact ⟨rfl, HZ.out⟩
    · have m12 : decide ((8 : Int) < (c.parts.length : Int)) = false := decide_eq_false (by omega)
      go_enter Try.func5, Try.ntmps5
      go_upto_region 1 with (fail)
      rw [HW.out]
      go_wp2_with fail
      refine (good_val c _ _ _ _ _ _ _ _ _ _ _ ST0.out.R hs true H1).mono ?_
      rintro e w1 ⟨rfl, hb1⟩
      have ST1 := Lib.hid (ST0.out.up hb1)
      clear hb1 x0 x1 x2 x3 x4 x5 hz
      obtain ⟨x0, x1, x2, x3, x4, x5, hz⟩ := ST1.out.cells
      go_wp2_with fail
      refine (rMatrix_ok c _ _ _ _ _ _ _ _ _ _ _ ST1.out.R hs (right_wired HRT.out)).mono ?_
      rintro e w3 ⟨v3, rfl, hm3, hb3⟩
      have ST3 := Lib.hid (ST1.out.up hb3)
      obtain ⟨nA, nc, rfl, hr3⟩ := hm3.reads
      have HN3 := Lib.hid hr3
      have hml : (matRows c).length = c.parts.length := matTo_len c _
      clear hb3 hm3 hr3 x0 x1 x2 x3 x4 x5 hz m12 h12
      rw [hml]
      have HML := Lib.hid hml
      clear hml
      obtain ⟨x0, x1, x2, x3, x4, x5, hz⟩ := ST3.out.cells
      go_wp2
      clear x0 x1 x2 x3 x4 x5 hz
      go_loopw [27] (fun i wr => ∃ (k : Nat), k ≤ c.parts.length ∧ i = .int .i64 k ∧ Hid (St w (wr) c A1 A2 A3 A4 A5 c1 c2 c3 c4 c5) ∧ Hid (RowsR wr nA (matRows c))) (fun i _ => c.parts.length - (intOf i).toNat)
      case atStart => exact ⟨0, Nat.zero_le _, rfl, ST3, HN3⟩
      case round =>
        obtain ⟨k, hk, rfl, ST, HN⟩ := hrel
        by_cases hlt : k < c.parts.length
        · obtain ⟨p, hp⟩ := get_lt hlt
          obtain ⟨l, hl⟩ := get_lt (l := matRows c) (k := k) (by rw [HML.out]; exact hlt)
          have hpu : wU16 p.id := (HOK.out.parts p (List.mem_of_getElem? hp)).id
          obtain ⟨bq, oq, rfl, hbq, q0, q1, q2, q3⟩ := par_at ST.out.R.parts hp
          have HP := Lib.hid hp
          have HL := Lib.hid hl
          have hll := row_len hl
          have k0 : (0 : Int) ≤ (k : Int) := by omega
          have k1 : (k : Int) < (c.parts.length : Int) := by omega
          clear hp hl
          go_upto_region 7 with (fail)
          obtain ⟨W4, hW4, pb, hb4⟩ := PaBox.new wr p 49
          rw [hW4]
          have CW4 := Lib.hid (ChnW.mk (ST.out.up hb4) pb)
          have hn4 := HN.out.up hb4
          obtain ⟨bm, om, A', c', rfl, hbm, gm, rm⟩ := hn4.row HL.out
          have HN4 := Lib.hid hn4
          have RM := Lib.hid rm
          clear hW4 hb4 pb q0 q1 q2 q3 hbq hn4 rm
          go_wp2
          clear gm hbm
          generalize wr.heap.size = gp at *
          go_loopw [37] (fun i wj => ∃ (m : Nat), m ≤ l.length ∧ i = .int .i64 m ∧ Hid (ChnW w wj gp c (some ⟨bq, oq, none⟩) A2 A3 A4 A5 c1 c2 c3 c4 c5 p) ∧ Hid (Below W4.heap.size W4 wj)) (fun i _ => l.length - (intOf i).toNat)
          case atStart => exact ⟨0, Nat.zero_le _, rfl, CW4, Lib.hid (Below.refl _ _)⟩
          case round =>
            obtain ⟨m, hm, rfl, CWj, HBj⟩ := hrel
            by_cases hltm : m < l.length
            · obtain ⟨y, hy⟩ := get_lt hltm
              obtain ⟨n, rfl, hn⟩ := row_in HL.out hy
              obtain ⟨bb, ob, rfl, hbb, gy⟩ := int_at (RM.out.up HBj.out) hy
              obtain ⟨q, hq⟩ := get_lt hn
              have hqu : wU16 q.id := (HOK.out.parts q (List.mem_of_getElem? hq)).id
              have HF := Lib.hid (row_flow HU.out HP.out HL.out hy hq)
              obtain ⟨x0, x1, x2, x3, x4, x5, hz⟩ := CWj.out.st.cells
              obtain ⟨p0, p1, p2, p3, hg⟩ := CWj.out.bx
              obtain ⟨br, or_, er, hbr, r0, r1, r2, r3⟩ := par_at CWj.out.st.R.parts hq
              obtain ⟨rfl, rfl⟩ : bq = br ∧ oq = or_ := by simpa using er
              have m0 : (0 : Int) ≤ (m : Int) := by omega
              have m1 : (m : Int) < (l.length : Int) := by omega
              have n0 : (0 : Int) ≤ (n : Int) := by omega
              have n1 : (n : Int) < (c.parts.length : Int) := by omega
              clear hy hq er
              go_wp2_with fail
              refine wp_region_ext (by kernel_rfl) (by kernel_rfl) ?_
              repeat (go_big_quiet_step ((go_at_call 20; exact Calls.quiet_ext (flow_val c _ _ _ _ _ _ _ _ _ _ _ (CWj.out.st.ext _).R hs HOK.out HRT.out _ _ hpu hqu true HF))))
              refine wpQuiet_nil ?_
              intro xq
              have CW2 := Lib.hid (CWj.out.up (ext_below _ xq))
              have HB2 := Lib.hid (Below.then_ HBj.out (ext_below _ xq))
              clear x0 x1 x2 x3 x4 x5 hz p0 p1 p2 p3 hg r0 r1 r2 r3 gy hbb hbr
              go_wp2
              go_roundw
              case rel => exact ⟨m + 1, by omega, by go_num, CW2, HB2⟩
              case measure => simp [intOf]; omega
            · obtain rfl : m = l.length := by omega
              have HNj := Lib.hid (HN4.out.up HBj.out)
              obtain ⟨x0, x1, x2, x3, x4, x5, hz⟩ := CWj.out.st.cells
              clear hll
              go_wp2
              clear x0 x1 x2 x3 x4 x5 hz
              go_loopw [56] (fun i wj => ∃ (m : Nat), m ≤ c.parts.length ∧ i = .int .i64 m ∧ Hid (ChnW w wj gp c (some ⟨bq, oq, none⟩) A2 A3 A4 A5 c1 c2 c3 c4 c5 p) ∧ Hid (RowsR wj (some ⟨bm, om, none⟩) (matRows c))) (fun i _ => c.parts.length - (intOf i).toNat)
              case atStart => exact ⟨0, Nat.zero_le _, rfl, CWj, HNj⟩
              case round =>
                obtain ⟨m, hm, rfl, CWq, HNq⟩ := hrel
                by_cases hltm : m < c.parts.length
                · obtain ⟨q, hq⟩ := get_lt hltm
                  have hqu : wU16 q.id := (HOK.out.parts q (List.mem_of_getElem? hq)).id
                  obtain ⟨br, or_, er, hbr, r0, r1, r2, r3⟩ := par_at CWq.out.st.R.parts hq
                  obtain ⟨rfl, rfl⟩ : bq = br ∧ oq = or_ := by simpa using er
                  have m0 : (0 : Int) ≤ (m : Int) := by omega
                  have m1 : (m : Int) < (c.parts.length : Int) := by omega
                  clear er hq
                  obtain ⟨wq, rfl⟩ : ∃ wq : World, wq = wr := ⟨_, rfl⟩
                  go_upto_region 16 with (fail)
                  obtain ⟨W5, hW5, qb, hb5⟩ := PaBox.new wq q 49
                  rw [hW5]
                  have CW5 := Lib.hid (CWq.out.up hb5)
                  have QB5 := Lib.hid qb
                  have HN5 := Lib.hid (HNq.out.up hb5)
                  clear hW5 r0 r1 r2 r3 hbr qb
                  obtain ⟨x0, x1, x2, x3, x4, x5, hz⟩ := CW5.out.st.cells
                  go_wp2
                  clear x0 x1 x2 x3 x4 x5 hz
                  have HB5 := Lib.hid hb5
                  clear hb5
                  go_loopw [63] (fun i wk => ∃ (n : Nat), n ≤ c.parts.length ∧ i = .int .i64 n ∧ Hid (ChnW w wk gp c (some ⟨bq, oq, none⟩) A2 A3 A4 A5 c1 c2 c3 c4 c5 p) ∧ Hid (PaBox wk wq.heap.size q) ∧ Hid (RowsR wk (some ⟨bm, om, none⟩) (matRows c))) (fun i _ => c.parts.length - (intOf i).toNat)
                  case atStart => exact ⟨0, Nat.zero_le _, rfl, CW5, QB5, HN5⟩
                  case round =>
                    obtain ⟨n, hn, rfl, CWk, QBk, HNk⟩ := hrel
                    by_cases hltn : n < c.parts.length
                    · obtain ⟨r, hr⟩ := get_lt hltn
                      have hru : wU16 r.id := (HOK.out.parts r (List.mem_of_getElem? hr)).id
                      obtain ⟨br, or_, er, hbr, r0, r1, r2, r3⟩ := par_at CWk.out.st.R.parts hr
                      obtain ⟨rfl, rfl⟩ : bq = br ∧ oq = or_ := by simpa using er
                      have n0 : (0 : Int) ≤ (n : Int) := by omega
                      have n1 : (n : Int) < (c.parts.length : Int) := by omega
                      clear er hr
                      obtain ⟨wk0, rfl⟩ : ∃ wk0 : World, wk0 = wr := ⟨_, rfl⟩
                      go_upto_region 19 with (fail)
                      obtain ⟨W6, hW6, rb, hb6⟩ := PaBox.new wk0 r 49
                      rw [hW6]
                      have CX := Lib.hid (ChnX.mk (CWk.out.st.up hb6) (CWk.out.bx.up hb6) (QBk.out.up hb6) rb (HNk.out.up hb6))
                      clear hW6 rb hb6 r0 r1 r2 r3 hbr
                      obtain ⟨x0, x1, x2, x3, x4, x5, hz⟩ := CX.out.st.cells
                      obtain ⟨p0, p1, p2, p3, hg⟩ := CX.out.px
                      obtain ⟨q0, q1, q2, q3, hgq⟩ := CX.out.qx
                      obtain ⟨r0, r1, r2, r3, hgr⟩ := CX.out.rx
                      rcases bool_cases (flowB c p.id q.id) with e1 | e1
                      · rcases bool_cases (flowB c q.id r.id) with e2 | e2
                        · have E3 := Lib.hid (flow_trans e1 e2)
                          have E1 := Lib.hid e1
                          have E2 := Lib.hid e2
                          clear e1 e2
                          go_wp2_with fail
                          refine (flow_val c _ _ _ _ _ _ _ _ _ _ _ CX.out.st.R hs HOK.out HRT.out _ _ hpu hqu true E1).mono ?_
                          rintro e v6 ⟨rfl, hbv⟩
                          have CX1 := Lib.hid (CX.out.up hbv)
                          clear hbv x0 x1 x2 x3 x4 x5 hz p0 p1 p2 p3 hg q0 q1 q2 q3 hgq r0 r1 r2 r3 hgr
                          obtain ⟨x0, x1, x2, x3, x4, x5, hz⟩ := CX1.out.st.cells
                          obtain ⟨p0, p1, p2, p3, hg⟩ := CX1.out.px
                          obtain ⟨q0, q1, q2, q3, hgq⟩ := CX1.out.qx
                          obtain ⟨r0, r1, r2, r3, hgr⟩ := CX1.out.rx
                          go_wp2_with fail
                          refine (flow_val c _ _ _ _ _ _ _ _ _ _ _ CX1.out.st.R hs HOK.out HRT.out _ _ hqu hru true E2).mono ?_
                          rintro e v7 ⟨rfl, hbv⟩
                          have CX2 := Lib.hid (CX1.out.up hbv)
                          clear hbv x0 x1 x2 x3 x4 x5 hz p0 p1 p2 p3 hg q0 q1 q2 q3 hgq r0 r1 r2 r3 hgr
                          obtain ⟨x0, x1, x2, x3, x4, x5, hz⟩ := CX2.out.st.cells
                          obtain ⟨p0, p1, p2, p3, hg⟩ := CX2.out.px
                          obtain ⟨q0, q1, q2, q3, hgq⟩ := CX2.out.qx
                          obtain ⟨r0, r1, r2, r3, hgr⟩ := CX2.out.rx
                          go_wp2_with fail
                          refine (flow_val c _ _ _ _ _ _ _ _ _ _ _ CX2.out.st.R hs HOK.out HRT.out _ _ hpu hru true E3).mono ?_
                          rintro e v8 ⟨rfl, hbv⟩
                          have CX3 := Lib.hid (CX2.out.up hbv)
                          clear hbv x0 x1 x2 x3 x4 x5 hz p0 p1 p2 p3 hg q0 q1 q2 q3 hgq r0 r1 r2 r3 hgr
                          go_wp2
                          go_roundw
                          case rel => exact ⟨n + 1, by omega, by go_num, Lib.hid ⟨CX3.out.st, CX3.out.px⟩, Lib.hid CX3.out.qx, Lib.hid CX3.out.rows⟩
                          case measure => simp [intOf]; omega
                        · have E1 := Lib.hid e1
                          have E2 := Lib.hid e2
                          clear e1 e2
                          go_wp2_with fail
                          refine (flow_val c _ _ _ _ _ _ _ _ _ _ _ CX.out.st.R hs HOK.out HRT.out _ _ hpu hqu true E1).mono ?_
                          rintro e v6 ⟨rfl, hbv⟩
                          have CX1 := Lib.hid (CX.out.up hbv)
                          clear hbv x0 x1 x2 x3 x4 x5 hz p0 p1 p2 p3 hg q0 q1 q2 q3 hgq r0 r1 r2 r3 hgr
                          obtain ⟨x0, x1, x2, x3, x4, x5, hz⟩ := CX1.out.st.cells
                          obtain ⟨p0, p1, p2, p3, hg⟩ := CX1.out.px
                          obtain ⟨q0, q1, q2, q3, hgq⟩ := CX1.out.qx
                          obtain ⟨r0, r1, r2, r3, hgr⟩ := CX1.out.rx
                          go_wp2_with fail
                          refine (flow_val c _ _ _ _ _ _ _ _ _ _ _ CX1.out.st.R hs HOK.out HRT.out _ _ hqu hru false E2).mono ?_
                          rintro e v7 ⟨rfl, hbv⟩
                          have CX2 := Lib.hid (CX1.out.up hbv)
                          clear hbv x0 x1 x2 x3 x4 x5 hz p0 p1 p2 p3 hg q0 q1 q2 q3 hgq r0 r1 r2 r3 hgr
                          go_wp2
                          go_roundw
                          case rel => exact ⟨n + 1, by omega, by go_num, Lib.hid ⟨CX2.out.st, CX2.out.px⟩, Lib.hid CX2.out.qx, Lib.hid CX2.out.rows⟩
                          case measure => simp [intOf]; omega
                      · have E1 := Lib.hid e1
                        clear e1
                        go_wp2_with fail
                        refine (flow_val c _ _ _ _ _ _ _ _ _ _ _ CX.out.st.R hs HOK.out HRT.out _ _ hpu hqu false E1).mono ?_
                        rintro e v6 ⟨rfl, hbv⟩
                        have CX1 := Lib.hid (CX.out.up hbv)
                        clear hbv x0 x1 x2 x3 x4 x5 hz p0 p1 p2 p3 hg q0 q1 q2 q3 hgq r0 r1 r2 r3 hgr
                        go_wp2
                        go_roundw
                        case rel => exact ⟨n + 1, by omega, by go_num, Lib.hid ⟨CX1.out.st, CX1.out.px⟩, Lib.hid CX1.out.qx, Lib.hid CX1.out.rows⟩
                        case measure => simp [intOf]; omega
                    · obtain rfl : n = c.parts.length := by omega
                      go_wp2
                      go_roundw
                      case rel => exact ⟨m + 1, by omega, by go_num, CWk, HNk⟩
                      case measure => simp [intOf]; omega
                · obtain rfl : m = c.parts.length := by omega
                  go_wp2
                  go_roundw
                  case rel => exact ⟨k + 1, by omega, by go_num, Lib.hid CWq.out.st, HNq⟩
                  case measure => simp [intOf]; omega
        · obtain rfl : k = c.parts.length := by omega
          go_wp2_with fail
          refine (alive_ok _).mono ?_
          rintro e w5 ⟨rfl, hb5⟩
          have HZ := Lib.hid (ST.out.up hb5).bel
          clear hb5
          go_wp2
          go_ret
          exact ⟨rfl, HZ.out⟩
  · have H1 := Lib.hid h1
    clear h1
    go_enter Try.func5, Try.ntmps5
    go_upto_region 1 with (fail)
    rw [HW.out]
    go_wp2_with fail
    refine (good_val c _ _ _ _ _ _ _ _ _ _ _ ST0.out.R hs false H1).mono ?_
    rintro e w1 ⟨rfl, hb1⟩
    have HB1 := Lib.hid (ST0.out.up hb1).bel
    clear hb1 x0 x1 x2 x3 x4 x5 hz
    go_wp2_with fail
    refine (alive_ok _).mono ?_
    rintro e w2 ⟨rfl, hb2⟩
    have HZ := Lib.hid (Below.then_ HB1.out hb2)
    clear hb2
    go_wp2
    go_ret
    exact ⟨rfl, HZ.out⟩
end Go.Proofs.Ytifmcdnaaaphmaa
