/-
  conf.Counts, walked: the numbers of the records. Condition: at most 4194304 records and destinations.
-/
import Derived.Test.YtldchpmilknlmaaGreatIsN
namespace Go.Proofs.YtldchpmilknlmaaGreat
open Go.RowKit
/-- where Counts stands: the box of the configuration, the result's, the numbers so far -/
structure CntSt (w W : World) (c : Cfg) (A1 A2 A3 A4 A5 : Option Addr) (c1 c2 c3 c4 c5 : Nat) (s : Nat) : Prop where
  st : St w W c A1 A2 A3 A4 A5 c1 c2 c3 c4 c5
  res : Blk W (w.heap.size + 1) 52 #[.int .i64 0, .int .i64 0, .int .i64 0, .int .i64 0, .int .i64 0, .int .i64 0, .int .i64 0]
  out : Blk W (w.heap.size + 1 + 1) 52 #[.int .i64 0, .int .i64 c.parts.length, .int .i64 c.wins.length, .int .i64 c.regs.length, .int .i64 c.ports.length, .int .i64 c.chans.length, .int .i64 s]
theorem CntSt.up {w W V : World} {c : Cfg} {A1 A2 A3 A4 A5 : Option Addr} {c1 c2 c3 c4 c5 s : Nat} (h : CntSt w W c A1 A2 A3 A4 A5 c1 c2 c3 c4 c5 s) (hb : Below W.heap.size W V) : CntSt w V c A1 A2 A3 A4 A5 c1 c2 c3 c4 c5 s :=
  ⟨h.st.up hb, h.res.below hb h.res.lt, h.out.below hb h.out.lt⟩
theorem CntSt.set {w W : World} {c : Cfg} {A1 A2 A3 A4 A5 : Option Addr} {c1 c2 c3 c4 c5 s : Nat} (t : Nat) (h : CntSt w W c A1 A2 A3 A4 A5 c1 c2 c3 c4 c5 s) : CntSt w (W.setCell ⟨w.heap.size + 1 + 1, 6, none⟩ (.int .i64 t)) c A1 A2 A3 A4 A5 c1 c2 c3 c4 c5 t := by
  refine ⟨h.st.keep ((Below.refl _ _).setCell (p := ⟨w.heap.size + 1 + 1, 6, none⟩) (by show w.heap.size + 1 ≤ w.heap.size + 1 + 1; omega) _), h.res.far (by show w.heap.size + 1 ≠ w.heap.size + 1 + 1; omega) _, ?_⟩
  have := h.out.set_ 6 (.int .i64 t)
  simpa using this
set_option maxRecDepth 100000 in
set_option maxHeartbeats 4000000 in
theorem countsW_ok (c : Cfg) (A1 A2 A3 A4 A5 : Option Addr) (c1 c2 c3 c4 c5 : Nat) (w : World) (hR : CfgR w w.heap.size c A1 A2 A3 A4 A5 c1 c2 c3 c4 c5) (ht : c.total ≤ 4194304) :
    Calls Tryz.prog 22 #[cfgV c.frame A1 A2 A3 A4 A5 c.parts.length c.wins.length c.regs.length c.ports.length c.chans.length c1 c2 c3 c4 c5] w fun e w' => e = .returned (.agg #[.int .i64 0, .int .i64 c.parts.length, .int .i64 c.wins.length, .int .i64 c.regs.length, .int .i64 c.ports.length, .int .i64 c.chans.length, .int .i64 (sumDests c.chans)]) ∧ Below w.heap.size w w' := by
  obtain ⟨W0, hW, st⟩ := St.start_any hR 29
  have HW := Lib.hid hW
  have e0 : W0.heap.size = w.heap.size + 1 := by rw [← hW]; simp
  have hsum : ∀ k, sumDests (c.chans.take k) ≤ 4194304 := fun k => by have := sumDests_take c.chans k; unfold Cfg.total at ht; omega
  have HSUM := Lib.hid hsum
  have hx : c.chans.length ≤ 4194304 := by unfold Cfg.total at ht; omega
  have hres := Blk.new W0 52 #[.int .i64 0, .int .i64 0, .int .i64 0, .int .i64 0, .int .i64 0, .int .i64 0, .int .i64 0]
  have hb1 := below_one W0 (.cells #[.int .i64 0, .int .i64 0, .int .i64 0, .int .i64 0, .int .i64 0, .int .i64 0, .int .i64 0] 52)
  obtain ⟨W1, hW1⟩ : ∃ W1, W0.alloc (.cells #[.int .i64 0, .int .i64 0, .int .i64 0, .int .i64 0, .int .i64 0, .int .i64 0, .int .i64 0] 52) = W1 := ⟨_, rfl⟩
  have e1 : W1.heap.size = w.heap.size + 1 + 1 := by rw [← hW1]; simp [e0]
  rw [hW1] at hres hb1
  rw [e0] at hres
  have HW1 := Lib.hid hW1
  have hout := Blk.new W1 52 #[.int .i64 0, .int .i64 c.parts.length, .int .i64 c.wins.length, .int .i64 c.regs.length, .int .i64 c.ports.length, .int .i64 c.chans.length, .int .i64 0]
  have hb2 := below_one W1 (.cells #[.int .i64 0, .int .i64 c.parts.length, .int .i64 c.wins.length, .int .i64 c.regs.length, .int .i64 c.ports.length, .int .i64 c.chans.length, .int .i64 0] 52)
  obtain ⟨W2, hW2⟩ : ∃ W2, W1.alloc (.cells #[.int .i64 0, .int .i64 c.parts.length, .int .i64 c.wins.length, .int .i64 c.regs.length, .int .i64 c.ports.length, .int .i64 c.chans.length, .int .i64 0] 52) = W2 := ⟨_, rfl⟩
  rw [hW2] at hout hb2
  rw [e1] at hout
  have HW2 := Lib.hid hW2
  have CS := Lib.hid (show CntSt w W2 c A1 A2 A3 A4 A5 c1 c2 c3 c4 c5 (sumDests (c.chans.take 0)) from ⟨(st.up hb1).up hb2, hres.below hb2 hres.lt, by simpa [sumDests] using hout⟩)
  obtain ⟨x0, x1, x2, x3, x4, x5, hz⟩ := (st.up hb1).cells
  clear hR hW st ht hsum hres hb1 hW1 hout hb2 hW2 e0
  go_enter Tryz.func22, Tryz.ntmps22
  go_upto_region 1 with (fail)
  rw [HW.out, HW1.out]
  go_upto_region 2 with (fail)
  rw [HW2.out]
  clear x0 x1 x2 x3 x4 x5 hz e1
  obtain ⟨x0, x1, x2, x3, x4, x5, hz⟩ := CS.out.st.cells
  go_wp2
  clear x0 x1 x2 x3 x4 x5 hz
  go_loopw [25] (fun i wr => ∃ k : Nat, k ≤ c.chans.length ∧ i = .int .i64 k ∧ Hid (CntSt w wr c A1 A2 A3 A4 A5 c1 c2 c3 c4 c5 (sumDests (c.chans.take k)))) (fun i _ => c.chans.length - (intOf i).toNat)
  case atStart => exact ⟨0, Nat.zero_le _, rfl, CS⟩
  case round =>
    obtain ⟨k, hk, rfl, CK⟩ := hrel
    by_cases hlt : k < c.chans.length
    · obtain ⟨x, hx⟩ := get_lt hlt
      have h1 := HSUM.out k
      have h2 := HSUM.out (k + 1)
      have hn := sumDests_next hx
      have HN := Lib.hid hn
      obtain ⟨cs, hC, hr⟩ := CK.out.st.R.chans
      obtain ⟨b, o, rfl, hb, g0, g1, D, d, g2, hd1, hd2, _⟩ := chn_at hC hr hx
      have k0 : (0 : Int) ≤ (k : Int) := by omega
      have k1 : (k : Int) < (c.chans.length : Int) := by omega
      have q6 := CK.out.out.cell 6
      have qf := CK.out.out.frozen
      have ql := CK.out.out.lt
      simp at q6
      have C2 := Lib.hid ((CK.out.set (sumDests (c.chans.take (k + 1)))).up (below_one _ (.cells #[.int .u16 x.id, .int .u16 x.source, .slice D x.dests.length d] 46)))
      have he : ((sumDests (c.chans.take (k + 1)) : Nat) : Int) = (sumDests (c.chans.take k) : Int) + (x.dests.length : Int) := by rw [hn]; omega
      have hb3 : sumDests (c.chans.take k) + x.dests.length ≤ 4194304 := by omega
      rw [he] at C2
      generalize sumDests (c.chans.take k) = s at q6 C2 hb3 h1 ⊢
      clear hx hC hr hn h2 he CK
      go_wp2
      go_roundw
      case rel => exact ⟨k + 1, by omega, by go_num, C2⟩
      case measure => simp [intOf]; omega
    · obtain rfl : k = c.chans.length := by omega
      rw [List.take_length] at CK
      have o0 := CK.out.out.cell 0
      have o1 := CK.out.out.cell 1
      have o2 := CK.out.out.cell 2
      have o3 := CK.out.out.cell 3
      have o4 := CK.out.out.cell 4
      have o5 := CK.out.out.cell 5
      have o6 := CK.out.out.cell 6
      have r0 := CK.out.res.cell 0
      have r1 := CK.out.res.cell 1
      have r2 := CK.out.res.cell 2
      have r3 := CK.out.res.cell 3
      have r4 := CK.out.res.cell 4
      have r5 := CK.out.res.cell 5
      have r6 := CK.out.res.cell 6
      simp at o0 o1 o2 o3 o4 o5 o6 r0 r1 r2 r3 r4 r5 r6
      have hfr := CK.out.res.frozen
      have hrl := CK.out.res.lt
      go_wp2
      refine bodyPost_ret (v := .agg #[.int .i64 0, .int .i64 c.parts.length, .int .i64 c.wins.length, .int .i64 c.regs.length, .int .i64 c.ports.length, .int .i64 c.chans.length, .int .i64 (sumDests c.chans)]) (by simp [results, Tryz.results22, go_sem, r0, r1, r2, r3, r4, r5, r6]) rfl ⟨rfl, ?_⟩
      exact ((((((CK.out.st.bel.setCell (Nat.le_succ _) _).setCell (Nat.le_succ _) _).setCell (Nat.le_succ _) _).setCell (Nat.le_succ _) _).setCell (Nat.le_succ _) _).setCell (Nat.le_succ _) _).setCell (Nat.le_succ _) _
end Go.Proofs.YtldchpmilknlmaaGreat
