/-
  What sends of the reference of layer 18 returns, walked once.
-/
import Derived.Test.YtifmcdnaaaphmaaWirH
namespace Go.Proofs.Ytifmcdnaaaphmaa
open Go.RowKit
attribute [local go_sem] ext_cell
/-- all ends of channels are ports -/
def wired (c : Cfg) : Prop := ∀ x ∈ c.chans, (portOf c x.source).isSome = true ∧ ∀ d ∈ x.dests, (portOf c d).isSome = true
def toB (c : Cfg) (t : Int) (l : List Int) : Bool := l.any fun d => (thePort c d).part == t
def sendsL (c : Cfg) (f t : Int) (l : List Chn) : Bool := l.any fun x => (thePort c x.source).part == f && toB c t x.dests
def sendsB (c : Cfg) (f t : Int) : Bool := sendsL c f t c.chans
theorem port_idx {c : Cfg} {id : Int} (h : (portOf c id).isSome = true) : ∃ (k : Nat), idx (fun y => y.id == id) c.ports = (k : Int) ∧ c.ports[k]? = some (thePort c id) ∧ portOf c id = some (thePort c id) := by
  rcases idx_cases (fun y => y.id == id) c.ports with ⟨_, h2⟩ | ⟨k, p, h1, hk, h3, h4, h5⟩
  · have : portOf c id = none := h2
    rw [this] at h; cases h
  · have e : portOf c id = some p := h4
    have e2 : thePort c id = p := by simp [thePort, e]
    exact ⟨k, h1, by rw [e2]; exact h3, by rw [e2]; exact e⟩
theorem sendsL_hit {c : Cfg} {f t : Int} {l : List Chn} {k : Nat} {x : Chn} (hx : l[k]? = some x) (h1 : ((thePort c x.source).part == f) = true) (h2 : toB c t x.dests = true) : sendsL c f t l = true := by
  unfold sendsL; rw [List.any_eq_true]; exact ⟨x, List.mem_of_getElem? hx, by rw [h1, h2]; rfl⟩
theorem sendsL_miss {c : Cfg} {f t : Int} {l : List Chn} {k : Nat} {x : Chn} (hx : l[k]? = some x) (h0 : sendsL c f t (l.take k) = false) (h : ((thePort c x.source).part == f && toB c t x.dests) = false) : sendsL c f t (l.take (k + 1)) = false := by
  rw [take_next hx]; unfold sendsL at h0 ⊢; rw [List.any_append, h0, List.any_cons, h]; rfl
theorem toB_hit {c : Cfg} {t : Int} {l : List Int} {k : Nat} {d : Int} (hx : l[k]? = some d) (h1 : ((thePort c d).part == t) = true) : toB c t l = true := by
  unfold toB; rw [List.any_eq_true]; exact ⟨d, List.mem_of_getElem? hx, h1⟩
theorem toB_miss {c : Cfg} {t : Int} {l : List Int} {k : Nat} {d : Int} (hx : l[k]? = some d) (h0 : toB c t (l.take k) = false) (h1 : ((thePort c d).part == t) = false) : toB c t (l.take (k + 1)) = false := by
  rw [take_next hx]; unfold toB at h0 ⊢; rw [List.any_append, h0, List.any_cons, h1]; rfl
set_option maxRecDepth 100000 in
set_option maxHeartbeats 4000000 in
theorem sends_ok (c : Cfg) (A1 A2 A3 A4 A5 : Option Addr) (c1 c2 c3 c4 c5 : Nat) (w : World) (hR : CfgR w w.heap.size c A1 A2 A3 A4 A5 c1 c2 c3 c4 c5) (hs : c.small) (hw : wired c) (f t : Int) : Calls Try.prog 43 #[cfgV c.frame A1 A2 A3 A4 A5 c.parts.length c.wins.length c.regs.length c.ports.length c.chans.length c1 c2 c3 c4 c5, .int .u16 f, .int .u16 t] w fun e w' => e = .returned (.bool (sendsB c f t)) ∧ Below w.heap.size w w' := by
  have hbd := hs.bd
  have ST0 := Lib.hid (St.start hR 29)
  have bx := hbd.x
  have bt := hbd.t
  have HDL := Lib.hid hbd.d
  have HWI := Lib.hid hw
  clear hR hbd hw
  go_enter Try.func43, Try.ntmps43
  go_wp2
  go_loopw [7] (fun i wr => ∃ k : Nat, k ≤ c.chans.length ∧ i = .int .i64 k ∧ Hid (sendsL c f t (c.chans.take k) = false) ∧ Hid (St w (wr) c A1 A2 A3 A4 A5 c1 c2 c3 c4 c5)) (fun i _ => c.chans.length - (intOf i).toNat)
  case atStart => exact ⟨0, Nat.zero_le _, rfl, Lib.hid (by simp [sendsL]), ST0⟩
  case round =>
    obtain ⟨k, hk, rfl, hno, ST⟩ := hrel
    obtain ⟨x0, x1, x2, x3, x4, x5, hz⟩ := ST.out.cells
    by_cases hlt : k < c.chans.length
    · obtain ⟨x, hx⟩ := get_lt hlt
      have hxl := HDL.out x (List.mem_of_getElem? hx)
      obtain ⟨hsrc, hdst⟩ := HWI.out x (List.mem_of_getElem? hx)
      obtain ⟨ks, hi, hps, _⟩ := port_idx hsrc
      obtain ⟨cs, hC, hr⟩ := ST.out.R.chans
      obtain ⟨b, o, rfl, hb, g0, g1, D, d, g2, hd1, hd2, hD⟩ := chn_at hC hr hx
      have HD := Lib.hid hD
      have HX := Lib.hid hx
      have HI := Lib.hid hi
      have HPS := Lib.hid hps
      have HDST := Lib.hid hdst
      have hksl : ks < c.ports.length := (List.getElem?_eq_some_iff.1 hps).1
      clear hx hC hr hD hi hps hsrc hdst
      go_upto_region 5 with (fail)
      obtain ⟨W1, hW1, cb, hb1⟩ := ChBox.new wr x D d 55
      rw [hW1]
      have st := ST.out.up hb1
      have HD1 := Lib.hid (HD.out.up hb1)
      clear hW1 g0 g1 g2 x0 x1 x2 x3 x4 x5 hz hb
      obtain ⟨bp, op, rfl, hbp, p0, p1, p2, p3, p4, p5⟩ := prt_at st.R.ports HPS.out
      obtain ⟨x0, x1, x2, x3, x4, x5, hz⟩ := st.cells
      have CB1 := Lib.hid cb
      obtain ⟨y0, y1, y2, hz1⟩ := cb
      have ST1 := Lib.hid st
      have m0 : (0 : Int) ≤ (ks : Int) := by omega
      have m1 : (ks : Int) < (c.ports.length : Int) := by omega
      clear st
      rcases beq_cases (thePort c x.source).part f with hpf | hpf
      · have hpf2 : ((thePort c x.source).part != f) = false := by simpa using hpf
        have HPF := Lib.hid hpf
        refine wp_region_ext (by kernel_rfl) (by kernel_rfl) ?_
        repeat (go_big_quiet_step ((go_at_call 18; exact Calls.quiet_ext (rPort_val c _ _ _ _ _ _ _ _ _ _ _ (ST1.out.ext _).R hs x.source ks HI))))
        refine wpQuiet_nil ?_
        intro xq
        have ST2 := Lib.hid (ST1.out.ext xq)
        have CB2 := Lib.hid (CB1.out.up (ext_below _ xq))
        have HD2 := Lib.hid (HD1.out.up (ext_below _ xq))
        clear x0 x1 x2 x3 x4 x5 hz y0 y1 y2 hz1 p0 p1 p2 p3 p4 p5 hbp
        generalize ext W1 xq = W2 at *
        go_wp2
        go_loopw [9] (fun j wj => ∃ m : Nat, m ≤ x.dests.length ∧ j = .int .i64 m ∧ Hid (toB c t (x.dests.take m) = false) ∧ Hid (St w wj c A1 A2 A3 (some ⟨bp, op, none⟩) (some ⟨b, o, none⟩) c1 c2 c3 c4 c5) ∧ Hid (ChBox wj wr.heap.size x D d) ∧ Hid (Rd wj wj.heap.size 1 D x.dests.length (x.dests.map (Value.int .u16)))) (fun j _ => x.dests.length - (intOf j).toNat)
        case atStart => exact ⟨0, Nat.zero_le _, rfl, Lib.hid (by simp [toB]), ST2, CB2, HD2⟩
        case round =>
          obtain ⟨m, hm, rfl, hno2, STj, CBj, HDj⟩ := hrel
          obtain ⟨x0, x1, x2, x3, x4, x5, hz⟩ := STj.out.cells
          obtain ⟨y0, y1, y2, hz1⟩ := CBj.out
          by_cases hltj : m < x.dests.length
          · obtain ⟨dd, hdd⟩ := get_lt hltj
            obtain ⟨kd, hid, hpd, _⟩ := port_idx (HDST.out dd (List.mem_of_getElem? hdd))
            obtain ⟨bd, od, rfl, hbd, gd⟩ := int_at HDj.out hdd
            obtain ⟨bq, oq, eq, hbq, p0, p1, p2, p3, p4, p5⟩ := prt_at STj.out.R.ports hpd
            obtain ⟨rfl, rfl⟩ : bp = bq ∧ op = oq := by simpa using eq
            have hkdl : kd < c.ports.length := (List.getElem?_eq_some_iff.1 hpd).1
            have HDD := Lib.hid hdd
            have HID := Lib.hid hid
            clear hdd hid hpd eq
            have n0 : (0 : Int) ≤ (kd : Int) := by omega
            have n1 : (kd : Int) < (c.ports.length : Int) := by omega
            have j0 : (0 : Int) ≤ (m : Int) := by omega
            have j1 : (m : Int) < (x.dests.length : Int) := by omega
            rcases beq_cases (thePort c dd).part t with hpt | hpt
            · have HV := Lib.hid (sendsL_hit HX.out HPF.out (toB_hit HDD.out hpt))
              go_wp2_with fail
              refine wp_region_ext (by kernel_rfl) (by kernel_rfl) ?_
              repeat (go_big_quiet_step ((go_at_call 18; exact Calls.quiet_ext (rPort_val c _ _ _ _ _ _ _ _ _ _ _ (STj.out.ext _).R hs dd kd HID))))
              refine wpQuiet_nil ?_
              intro xr
              go_wp2
              go_ret
              exact ⟨ret_bool HV.out.symm, (STj.out.ext xr).bel⟩
            · have HN := Lib.hid (toB_miss HDD.out hno2.out hpt)
              go_wp2_with fail
              refine wp_region_ext (by kernel_rfl) (by kernel_rfl) ?_
              repeat (go_big_quiet_step ((go_at_call 18; exact Calls.quiet_ext (rPort_val c _ _ _ _ _ _ _ _ _ _ _ (STj.out.ext _).R hs dd kd HID))))
              refine wpQuiet_nil ?_
              intro xr
              go_wp2
              go_roundw
              case rel => exact ⟨m + 1, by omega, by go_num, HN, Lib.hid (STj.out.ext xr), Lib.hid (CBj.out.up (ext_below _ xr)), Lib.hid (HDj.out.up (ext_below _ xr))⟩
              case measure => simp [intOf]; omega
          · obtain rfl : m = x.dests.length := by omega
            have HN := Lib.hid (sendsL_miss HX.out hno.out (show ((thePort c x.source).part == f && toB c t x.dests) = false by have := hno2.out; rw [List.take_length] at this; rw [this, Bool.and_false]))
            go_wp2
            go_roundw
            case rel => exact ⟨k + 1, by omega, by go_num, HN, STj⟩
            case measure => simp [intOf]; omega
      · have hpf2 : ((thePort c x.source).part != f) = true := by simpa using hpf
        have HN := Lib.hid (sendsL_miss HX.out hno.out (show ((thePort c x.source).part == f && toB c t x.dests) = false by rw [hpf]; rfl))
        refine wp_region_ext (by kernel_rfl) (by kernel_rfl) ?_
        repeat (go_big_quiet_step ((go_at_call 18; exact Calls.quiet_ext (rPort_val c _ _ _ _ _ _ _ _ _ _ _ (ST1.out.ext _).R hs x.source ks HI))))
        refine wpQuiet_nil ?_
        intro xq
        go_wp2
        go_roundw
        case rel => exact ⟨k + 1, by omega, by go_num, HN, Lib.hid (ST1.out.ext xq)⟩
        case measure => simp [intOf]; omega
    · obtain rfl : k = c.chans.length := by omega
      have HV := Lib.hid (show sendsB c f t = false by have := hno.out; rwa [List.take_length] at this)
      go_wp2
      go_ret
      exact ⟨ret_bool HV.out.symm, ST.out.bel⟩
theorem sends_val (c : Cfg) (A1 A2 A3 A4 A5 : Option Addr) (c1 c2 c3 c4 c5 : Nat) (w : World) (hR : CfgR w w.heap.size c A1 A2 A3 A4 A5 c1 c2 c3 c4 c5) (hs : c.small) (hw : wired c) (f t : Int) (v : Bool) (hv : Hid (sendsB c f t = v)) : Calls Try.prog 43 #[cfgV c.frame A1 A2 A3 A4 A5 c.parts.length c.wins.length c.regs.length c.ports.length c.chans.length c1 c2 c3 c4 c5, .int .u16 f, .int .u16 t] w fun e w' => e = .returned (.bool v) ∧ Below w.heap.size w w' := by
  have := sends_ok c A1 A2 A3 A4 A5 c1 c2 c3 c4 c5 w hR hs hw f t
  rwa [hv.out] at this
end Go.Proofs.Ytifmcdnaaaphmaa
