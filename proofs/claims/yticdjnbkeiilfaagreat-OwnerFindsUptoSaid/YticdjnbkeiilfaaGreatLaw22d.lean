/-
  The law OwnerFinds, walked.
-/
import Derived.BigQuiet
import Derived.Test.YticdjnbkeiilfaaGreatAlive22
import Derived.Test.YticdjnbkeiilfaaGreatEqZ
import Derived.Test.YticdjnbkeiilfaaGreatRefU
namespace Go.Proofs.YticdjnbkeiilfaaGreat
open Go.RowKit Go.Lib
attribute [local go_sem] ext_cell
theorem eqReg_n (l : List Reg) (n : Nat) (hn : Hid (l.length = n)) (A B : Option Addr) (a b : Nat) (w : World) (hl : n ≤ 4194304) (hA : Rd w w.heap.size 5 A n (l.flatMap Reg.cells)) (hB : Rd w w.heap.size 5 B n (l.flatMap Reg.cells)) :
    Calls Tryz.prog 19 #[.slice A n a, .slice B n b] w fun e w' => e = .returned (.bool true) ∧ Below w.heap.size w w' := by
  have h := hn.out
  subst h
  exact eqReg_val l l A B a b w true (Lib.hid (eqC_yes rfl)) hl hl hA hB
theorem only_one {R : List Reg} (h : R.length = 1) : ∃ r, R = [r] ∧ onlyR R = (r, true) := by
  match R, h with
  | [r], _ => exact ⟨r, rfl, rfl⟩
theorem only_not {R : List Reg} (h : ¬ R.length = 1) : onlyR R = (noReg, false) := by
  match R with
  | [] => rfl
  | [r] => exact absurd rfl h
  | _ :: _ :: _ => rfl
theorem set5 {w5 V : World} {n : Nat} {t : TypeId} {cs : Array Value} {a0 a1 a2 a3 a4 : Value} (b7 : Blk V n t cs) (b9 : Blk V (n + 1) t #[a0, a1, a2, a3, a4]) (hb : Below n w5 V) (v0 v1 v2 v3 v4 : Value) :
    ∃ U, ((((V.setCell ⟨n + 1, 0, none⟩ v0).setCell ⟨n + 1, 1, none⟩ v1).setCell ⟨n + 1, 2, none⟩ v2).setCell ⟨n + 1, 3, none⟩ v3).setCell ⟨n + 1, 4, none⟩ v4 = U ∧ Blk U n t cs ∧ Blk U (n + 1) t #[v0, v1, v2, v3, v4] ∧ Below n w5 U := by
  have hne : n ≠ n + 1 := by omega
  refine ⟨_, rfl, ((((b7.far hne v0).far hne v1).far hne v2).far hne v3).far hne v4, ?_, ((((hb.setCell (Nat.le_succ n) v0).setCell (Nat.le_succ n) v1).setCell (Nat.le_succ n) v2).setCell (Nat.le_succ n) v3).setCell (Nat.le_succ n) v4⟩
  have h := ((((b9.set_ 0 v0).set_ 1 v1).set_ 2 v2).set_ 3 v3).set_ 4 v4
  simpa using h
theorem cOwner_none {W : World} {lo mb : Nat} {l : List Reg} (h : MapC W lo mb l) (x : Int) (h0 : 0 ≤ x) (h1 : x ≤ 18446744073709551615) (hv : Hid (onlyR (l.filter (fun r => covR r x)) = (noReg, false))) : Calls Tryz.prog 18 #[.pointer (some ⟨mb, 0, none⟩), .int .u64 x] W fun r w' => r = .returned (.tuple #[.agg #[.int .u64 0, .int .u64 0, .int .u16 0, .int .u8 0, .bool false], .bool false]) ∧ Below W.heap.size W w' :=
  cOwner_ok h x h0 h1 noReg false hv
set_option maxRecDepth 100000 in
set_option maxHeartbeats 16000000 in
theorem ownerFinds_ok (c : Cfg) (A1 A2 A3 A4 A5 : Option Addr) (c1 c2 c3 c4 c5 : Nat) (w : World) (hR : CfgR w w.heap.size c A1 A2 A3 A4 A5 c1 c2 c3 c4 c5) (hs : c.small) (hok : c.ok) (x : Int) (hx : wU64 x) : Calls Tryz.prog 4 #[cfgV c.frame A1 A2 A3 A4 A5 c.parts.length c.wins.length c.regs.length c.ports.length c.chans.length c1 c2 c3 c4 c5, .int .u64 x] w fun e w' => e = .returned (.bool true) ∧ Below w.heap.size w w' := by
  obtain ⟨W0, hW, st⟩ := St.start_any hR 29
  have HW := Lib.hid hW
  have ST0 := Lib.hid st
  obtain ⟨x0, x1, x2, x3, x4, x5, hz⟩ := st.cells
  have HOK := Lib.hid hok
  obtain ⟨hx0, hx1⟩ := Go.bounds_u64 hx
  have hbd := hs.bd.r
  clear hR hW st hok hx
  rcases bool_cases (few c) with h1 | h1
  · have H1 := Lib.hid h1
    obtain ⟨v, hv⟩ : ∃ v, rightM c = v := ⟨_, rfl⟩
    have HV := Lib.hid hv
    clear h1
    go_enter Tryz.func4, Tryz.ntmps4
    go_upto_region 1 with (fail)
    rw [HW.out]
    go_wp2_with fail
    refine (few_valO c _ _ _ _ _ _ _ _ _ _ _ ST0.out.R hs true H1).mono ?_
    rintro e w1 ⟨rfl, hb1⟩
    have ST1 := Lib.hid (ST0.out.up hb1)
    clear hb1 x0 x1 x2 x3 x4 x5 hz
    obtain ⟨x0, x1, x2, x3, x4, x5, hz⟩ := ST1.out.cells
    go_wp2_with fail
    refine (cNew_ok c _ _ _ _ _ _ _ _ _ _ _ ST1.out.R hs HOK.out v HV).mono ?_
    rintro e w2 ⟨hb2, ⟨rfl, rfl⟩ | ⟨rfl, mb, rfl, hm⟩⟩
    · have ST2 := Lib.hid (ST1.out.up hb2)
      clear hb2 hv x0 x1 x2 x3 x4 x5 hz
      obtain ⟨x0, x1, x2, x3, x4, x5, hz⟩ := ST2.out.cells
      go_wp2_with fail
      refine (rMemRight_ok c _ _ _ _ _ _ _ _ _ _ _ ST2.out.R hs HOK.out false HV).mono ?_
      rintro e w3 ⟨rfl, hb3⟩
      have ST3 := Lib.hid (ST2.out.up hb3)
      clear hb3 x0 x1 x2 x3 x4 x5 hz
      go_wp2_with fail
      refine (alive_ok w3).mono ?_
      rintro e w4 ⟨rfl, hb4⟩
      have HZ := Lib.hid (ST3.out.up hb4).bel
      clear hb4
      go_wp2
      go_ret
      exact ⟨rfl, HZ.out⟩
    · have ST2 := Lib.hid (ST1.out.up hb2)
      have HSP := Lib.hid (rightM_sp HOK.out hv)
      have hnl : (normK keyReg c.regs).length ≤ 1048576 := by rw [(normK_perm (key := keyReg) c.regs).length_eq]; exact hbd
      obtain ⟨R, hRR⟩ : ∃ R, ((normK keyReg c.regs).filter fun r => covR r x) = R := ⟨_, rfl⟩
      have HRR := Lib.hid hRR
      have hrl : R.length ≤ 4194304 := by
        rw [← hRR]
        exact Nat.le_trans (List.length_filter_le _ _) (by omega)
      have HM := Lib.hid hm
      clear hb2 hv hm hRR hnl hbd x0 x1 x2 x3 x4 x5 hz
      obtain ⟨x0, x1, x2, x3, x4, x5, hz⟩ := ST2.out.cells
      go_wp2_with fail
      refine (rMemRight_ok c _ _ _ _ _ _ _ _ _ _ _ ST2.out.R hs HOK.out true HV).mono ?_
      rintro e w3 ⟨rfl, hb3⟩
      have ST3 := Lib.hid (ST2.out.up hb3)
      have HM3 := Lib.hid (HM.out.up hb3)
      clear hb3 x0 x1 x2 x3 x4 x5 hz
      obtain ⟨x0, x1, x2, x3, x4, x5, hz⟩ := ST3.out.cells
      go_wp2_with fail
      refine (rAll_ok c _ _ _ _ _ _ _ _ _ _ _ ST3.out.R hs HOK.out HSP.out x R HRR).mono ?_
      rintro e w4 ⟨v4, rfl, ho4, hb4⟩
      obtain ⟨n, hn⟩ : ∃ n, R.length = n := ⟨_, rfl⟩
      have HN := Lib.hid hn
      rw [hn] at ho4 hrl
      obtain ⟨D4, d4, rfl, _, _, hr4⟩ := own_form ho4
      have HR4 := Lib.hid hr4
      have HM4 := Lib.hid (HM3.out.up hb4)
      have HB4 := Lib.hid (ST3.out.up hb4).bel
      clear ho4 hr4 hb4 hn x0 x1 x2 x3 x4 x5 hz
      by_cases hn1 : n = 1
      · obtain ⟨r, hr, hor⟩ := only_one (HN.out.trans hn1)
        subst hn1
        have HOR := Lib.hid (show onlyR ((normK keyReg c.regs).filter fun r => covR r x) = (r, true) by rw [HRR.out]; exact hor)
        have HR0 := Lib.hid (show R[0]? = some r by rw [hr]; rfl)
        clear hr hor
        go_wp2_with fail
        refine (cOwner_ok HM4.out x hx0 hx1 r true HOR).mono ?_
        rintro e w5 ⟨rfl, hb5⟩
        have HB5 := Lib.hid (Below.then_ HB4.out hb5)
        have HM5 := Lib.hid (HM4.out.up hb5)
        have HR5 := Lib.hid (HR4.out.up hb5)
        go_upto_region 12 with (fail)
        have b7 := (Blk.new w5 41 #[.int .u64 r.base, .int .u64 r.size, .int .u16 r.part, .int .u8 r.rights, .bool r.shared]).alloc (.cells #[.int .u64 0, .int .u64 0, .int .u16 0, .int .u8 0, .bool false] 41)
        have b9 := Blk.new (w5.alloc (.cells #[.int .u64 r.base, .int .u64 r.size, .int .u16 r.part, .int .u8 r.rights, .bool r.shared] 41)) 41 #[.int .u64 0, .int .u64 0, .int .u16 0, .int .u8 0, .bool false]
        have e9 : (w5.alloc (.cells #[.int .u64 r.base, .int .u64 r.size, .int .u16 r.part, .int .u8 r.rights, .bool r.shared] 41)).heap.size = w5.heap.size + 1 := by simp
        rw [e9] at b9
        have hbv := Below.then_ (below_one w5 (.cells #[.int .u64 r.base, .int .u64 r.size, .int .u16 r.part, .int .u8 r.rights, .bool r.shared] 41)) (below_one (w5.alloc (.cells #[.int .u64 r.base, .int .u64 r.size, .int .u16 r.part, .int .u8 r.rights, .bool r.shared] 41)) (.cells #[.int .u64 0, .int .u64 0, .int .u16 0, .int .u8 0, .bool false] 41))
        generalize World.alloc (World.alloc w5 _) _ = V at b7 b9 hbv ⊢
        clear e9
        obtain ⟨bb, oo, hA, hbb, g0, g1, g2, g3, g4⟩ := reg_at ((show Rd w5 w5.heap.size 5 D4 R.length (R.flatMap Reg.cells) from by rw [HN.out]; exact HR5.out).up hbv) HR0.out
        subst hA
        simp only [Nat.zero_mul, Nat.add_zero] at g0 g1 g2 g3 g4
        have q0 := b9.cell 0
        have q1 := b9.cell 1
        have q2 := b9.cell 2
        have q3 := b9.cell 3
        have q4 := b9.cell 4
        have f0 := b9.frozen 0
        have f1 := b9.frozen 1
        have f2 := b9.frozen 2
        have f3 := b9.frozen 3
        have f4 := b9.frozen 4
        have qz := b9.lt
        simp at q0 q1 q2 q3 q4
        have B7 := Lib.hid b7
        have B9 := Lib.hid b9
        have HBV := Lib.hid hbv
        clear b7 b9 hbv
        go_upto_region 13 with (fail)
        obtain ⟨U, hU, b7, b9, hbu⟩ := set5 B7.out B9.out HBV.out (.int .u64 r.base) (.int .u64 r.size) (.int .u16 r.part) (.int .u8 r.rights) (.bool r.shared)
        rw [hU]
        have B7 := Lib.hid b7
        have B9 := Lib.hid b9
        have HBV := Lib.hid hbu
        clear hU b7 b9 hbu q0 q1 q2 q3 q4 f0 f1 f2 f3 f4 qz g0 g1 g2 g3 g4 hbb
        go_wp2_with fail
        refine (alive_ok _).mono ?_
        rintro e w6 ⟨rfl, hb6⟩
        have B7 := Lib.hid (B7.out.below hb6 B7.out.lt)
        have B9 := Lib.hid (B9.out.below hb6 B9.out.lt)
        have HM6 := Lib.hid ((HM5.out.up HBV.out).up hb6)
        have HR6 := Lib.hid ((HR5.out.up HBV.out).up hb6)
        have HB6 := Lib.hid (Below.then_ (Below.then_ HB5.out HBV.out) hb6)
        clear hb6
        go_wp2_with fail
        refine (cAll_ok HM6.out x hx0 hx1 R HRR).mono ?_
        rintro e w7 ⟨v7, rfl, ho7, hb7⟩
        rw [HN.out] at ho7
        obtain ⟨D7, d7, rfl, _, _, hr7⟩ := own_form ho7
        have HR7 := Lib.hid hr7
        have HR8 := Lib.hid (HR6.out.up hb7)
        have B7 := Lib.hid (B7.out.below hb7 B7.out.lt)
        have B9 := Lib.hid (B9.out.below hb7 B9.out.lt)
        have HB7 := Lib.hid (Below.then_ HB6.out hb7)
        clear ho7 hb7 hr7
        go_wp2_with fail
        refine (eqReg_n R _ HN _ _ _ _ w7 hrl HR7.out HR8.out).mono ?_
        rintro e w8 ⟨rfl, hb8⟩
        have b7c := B7.out.below hb8 B7.out.lt
        have b9c := B9.out.below hb8 B9.out.lt
        have HB8 := Lib.hid (Below.then_ HB7.out hb8)
        have p0 := b7c.cell 0
        have p1 := b7c.cell 1
        have p2 := b7c.cell 2
        have p3 := b7c.cell 3
        have p4 := b7c.cell 4
        have pz := b7c.lt
        have q0 := b9c.cell 0
        have q1 := b9c.cell 1
        have q2 := b9c.cell 2
        have q3 := b9c.cell 3
        have q4 := b9c.cell 4
        have qz := b9c.lt
        simp at p0 p1 p2 p3 p4 q0 q1 q2 q3 q4
        clear b7c b9c hb8
        go_wp2
        go_ret
        exact ⟨rfl, HB8.out⟩
      · have HOR := Lib.hid (show onlyR ((normK keyReg c.regs).filter fun r => covR r x) = (noReg, false) by rw [HRR.out]; exact only_not (by rw [HN.out]; exact hn1))
        have hne : ¬ (n : Int) = 1 := by omega
        clear hn1
        go_wp2_with fail
        refine (cOwner_none HM4.out x hx0 hx1 HOR).mono ?_
        rintro e w5 ⟨rfl, hb5⟩
        have HB5 := Lib.hid (Below.then_ HB4.out hb5)
        have HM5 := Lib.hid (HM4.out.up hb5)
        have HR5 := Lib.hid (HR4.out.up hb5)
        go_upto_region 13 with (fail)
        have b7 := (Blk.new w5 41 #[.int .u64 0, .int .u64 0, .int .u16 0, .int .u8 0, .bool false]).alloc (.cells #[.int .u64 0, .int .u64 0, .int .u16 0, .int .u8 0, .bool false] 41)
        have b9 := Blk.new (w5.alloc (.cells #[.int .u64 0, .int .u64 0, .int .u16 0, .int .u8 0, .bool false] 41)) 41 #[.int .u64 0, .int .u64 0, .int .u16 0, .int .u8 0, .bool false]
        have e9 : (w5.alloc (.cells #[.int .u64 0, .int .u64 0, .int .u16 0, .int .u8 0, .bool false] 41)).heap.size = w5.heap.size + 1 := by simp
        rw [e9] at b9
        have hbv := Below.then_ (below_one w5 (.cells #[.int .u64 0, .int .u64 0, .int .u16 0, .int .u8 0, .bool false] 41)) (below_one (w5.alloc (.cells #[.int .u64 0, .int .u64 0, .int .u16 0, .int .u8 0, .bool false] 41)) (.cells #[.int .u64 0, .int .u64 0, .int .u16 0, .int .u8 0, .bool false] 41))
        generalize World.alloc (World.alloc w5 _) _ = V at b7 b9 hbv ⊢
        have B7 := Lib.hid b7
        have B9 := Lib.hid b9
        have HBV := Lib.hid hbv
        clear e9 b7 b9 hbv
        go_wp2_with fail
        refine (alive_ok _).mono ?_
        rintro e w6 ⟨rfl, hb6⟩
        have B7 := Lib.hid (B7.out.below hb6 B7.out.lt)
        have B9 := Lib.hid (B9.out.below hb6 B9.out.lt)
        have HM6 := Lib.hid ((HM5.out.up HBV.out).up hb6)
        have HR6 := Lib.hid ((HR5.out.up HBV.out).up hb6)
        have HB6 := Lib.hid (Below.then_ (Below.then_ HB5.out HBV.out) hb6)
        clear hb6
        go_wp2_with fail
        refine (cAll_ok HM6.out x hx0 hx1 R HRR).mono ?_
        rintro e w7 ⟨v7, rfl, ho7, hb7⟩
        rw [HN.out] at ho7
        obtain ⟨D7, d7, rfl, _, _, hr7⟩ := own_form ho7
        have HR7 := Lib.hid hr7
        have HR8 := Lib.hid (HR6.out.up hb7)
        have B7 := Lib.hid (B7.out.below hb7 B7.out.lt)
        have B9 := Lib.hid (B9.out.below hb7 B9.out.lt)
        have HB7 := Lib.hid (Below.then_ HB6.out hb7)
        clear ho7 hb7 hr7
        go_wp2_with fail
        refine (eqReg_n R _ HN _ _ _ _ w7 hrl HR7.out HR8.out).mono ?_
        rintro e w8 ⟨rfl, hb8⟩
        have b7c := B7.out.below hb8 B7.out.lt
        have b9c := B9.out.below hb8 B9.out.lt
        have HB8 := Lib.hid (Below.then_ HB7.out hb8)
        have p0 := b7c.cell 0
        have p1 := b7c.cell 1
        have p2 := b7c.cell 2
        have p3 := b7c.cell 3
        have p4 := b7c.cell 4
        have pz := b7c.lt
        have q0 := b9c.cell 0
        have q1 := b9c.cell 1
        have q2 := b9c.cell 2
        have q3 := b9c.cell 3
        have q4 := b9c.cell 4
        have qz := b9c.lt
        simp at p0 p1 p2 p3 p4 q0 q1 q2 q3 q4
        clear b7c b9c hb8
        go_wp2
        go_ret
        exact ⟨rfl, HB8.out⟩
  · have H1 := Lib.hid h1
    clear h1
    go_enter Tryz.func4, Tryz.ntmps4
    go_upto_region 1 with (fail)
    rw [HW.out]
    go_wp2_with fail
    refine (few_valO c _ _ _ _ _ _ _ _ _ _ _ ST0.out.R hs false H1).mono ?_
    rintro e w1 ⟨rfl, hb1⟩
    have ST1 := Lib.hid (ST0.out.up hb1)
    clear hb1 x0 x1 x2 x3 x4 x5 hz
    go_wp2_with fail
    refine (alive_ok w1).mono ?_
    rintro e w2 ⟨rfl, hb2⟩
    have HZ := Lib.hid (ST1.out.up hb2).bel
    clear hb2
    go_wp2
    go_ret
    exact ⟨rfl, HZ.out⟩
end Go.Proofs.YticdjnbkeiilfaaGreat
