/-
  What Matrix of the reference of layer 18 returns, walked once.
-/
import Derived.Test.YtifmcdnaaaphmaaRef18d
import Derived.Test.YtifmcdnaaaphmaaAppend
namespace Go.Proofs.Ytifmcdnaaaphmaa
open Go.RowKit
attribute [local go_sem] ext_cell
theorem info_int : (Try.prog.info? 3).map (fun i => (i.zero, i.size, i.bytes)) = some (some (.int .i64 0), 1, 8) := by kernel_rfl
theorem info_ints : (Try.prog.info? 50).map (fun i => (i.zero, i.size, i.bytes)) = some (some (.slice none 0 0), 1, 24) := by kernel_rfl
/-- rows of numbers, each in memory of the call's own -/
def OwnRs (w : World) (base : Nat) (rows : List (List Int)) (vs : List Value) : Prop := vs.length = rows.length ∧ ∀ (i : Nat) (l : List Int) (v : Value), rows[i]? = some l → vs[i]? = some v → w.ownsRow base 3 1 v l.length (l.map (Value.int .i64))
def MatO (w : World) (base : Nat) (v : Value) (rows : List (List Int)) : Prop := ∃ vs, w.ownsRow base 50 1 v rows.length vs ∧ OwnRs w base rows vs
theorem own_less {w : World} {b b' : Nat} {e : TypeId} {size n : Nat} {v : Value} {xs : List Value} (h : w.ownsRow b e size v n xs) (hb : b' ≤ b) : w.ownsRow b' e size v n xs := by
  refine ⟨h.1, ?_⟩
  rcases h.2 with h2 | ⟨g, cap, cur, rfl, hg, r⟩
  · exact .inl h2
  · exact .inr ⟨g, cap, cur, rfl, by omega, r⟩
theorem OwnRs.keep {w w' : World} {b b' : Nat} {rows : List (List Int)} {vs : List Value} (h : OwnRs w b rows vs) (hk : ∀ v n xs, w.ownsRow b 3 1 v n xs → w'.ownsRow b' 3 1 v n xs) : OwnRs w' b' rows vs :=
  ⟨h.1, fun i l v h1 h2 => hk _ _ _ (h.2 i l v h1 h2)⟩
theorem OwnRs.snoc {w : World} {b : Nat} {rows : List (List Int)} {vs : List Value} {l : List Int} {v : Value} (h : OwnRs w b rows vs) (ho : w.ownsRow b 3 1 v l.length (l.map (Value.int .i64))) : OwnRs w b (rows ++ [l]) (vs ++ [v]) := by
  refine ⟨by simp [h.1], fun i l' v' h1 h2 => ?_⟩
  rcases Nat.lt_or_ge i rows.length with hi | hi
  · rw [List.getElem?_append_left hi] at h1
    rw [List.getElem?_append_left (by rw [h.1]; exact hi)] at h2
    exact h.2 i l' v' h1 h2
  · rw [List.getElem?_append_right hi] at h1
    rw [List.getElem?_append_right (by rw [h.1]; exact hi), h.1] at h2
    rcases Nat.eq_zero_or_pos (i - rows.length) with h0 | h0
    · rw [h0] at h1 h2
      simp at h1 h2
      subst h1 h2
      exact ho
    · rw [List.getElem?_eq_none (by simp; omega)] at h1
      cases h1
theorem MatO.below {w w' : World} {b : Nat} {v : Value} {rows : List (List Int)} (h : MatO w b v rows) (hb : Below w.heap.size w w') : MatO w' b v rows := by
  obtain ⟨vs, h1, h2⟩ := h
  exact ⟨vs, own_below h1 hb, h2.keep fun _ _ _ h => own_below h hb⟩
def pid (c : Cfg) (i : Nat) : Int := ((c.parts.map (·.id))[i]?).getD 0
def rowTo (c : Cfg) (i m : Nat) : List Int := ((List.range m).filter (fun k => sendsB c (pid c i) (pid c k))).map (fun k : Nat => (k : Int))
def matTo (c : Cfg) (i : Nat) : List (List Int) := (List.range i).map fun j => rowTo c j c.parts.length
def matRows (c : Cfg) : List (List Int) := matTo c c.parts.length
theorem pid_at {c : Cfg} {i : Nat} {x : Par} (h : c.parts[i]? = some x) : pid c i = x.id := by simp [pid, h]
theorem rowTo_yes {c : Cfg} {i m : Nat} (h : sendsB c (pid c i) (pid c m) = true) : rowTo c i (m + 1) = rowTo c i m ++ [(m : Int)] := by
  unfold rowTo; rw [List.range_succ, List.filter_append]; simp [h]
theorem rowTo_no {c : Cfg} {i m : Nat} (h : sendsB c (pid c i) (pid c m) = false) : rowTo c i (m + 1) = rowTo c i m := by
  unfold rowTo; rw [List.range_succ, List.filter_append]; simp [h]
theorem rowTo_len (c : Cfg) (i m : Nat) : (rowTo c i m).length ≤ m := by
  unfold rowTo; rw [List.length_map]; exact Nat.le_trans (List.length_filter_le _ _) (by simp)
theorem matTo_next (c : Cfg) (i : Nat) : matTo c (i + 1) = matTo c i ++ [rowTo c i c.parts.length] := by
  unfold matTo; rw [List.range_succ, List.map_append]; rfl
theorem matTo_len (c : Cfg) (i : Nat) : (matTo c i).length = i := by simp [matTo]
theorem one_slice (w : World) (A : Option Addr) (n cp : Nat) (t : TypeId) : Rd (w.alloc (.cells #[.slice A n cp] t)) (w.alloc (.cells #[.slice A n cp] t)).heap.size 1 (some ⟨w.heap.size, 0, none⟩) 1 [.slice A n cp] := by
  refine ⟨rfl, fun _ => ⟨_, _, rfl, by simp, fun j u hu => ?_⟩⟩
  have := World.news_of_block (heap_alloc_new w (.cells #[.slice A n cp] t)) j u (by simpa using hu)
  rwa [addr_add] at this
set_option maxRecDepth 100000 in
set_option maxHeartbeats 4000000 in
theorem rMatrix_ok (c : Cfg) (A1 A2 A3 A4 A5 : Option Addr) (c1 c2 c3 c4 c5 : Nat) (w : World) (hR : CfgR w w.heap.size c A1 A2 A3 A4 A5 c1 c2 c3 c4 c5) (hs : c.small) (hw : wired c) : Calls Try.prog 19 #[cfgV c.frame A1 A2 A3 A4 A5 c.parts.length c.wins.length c.regs.length c.ports.length c.chans.length c1 c2 c3 c4 c5] w fun e w' => ∃ v, e = .returned v ∧ MatO w' w.heap.size v (matRows c) ∧ Below w.heap.size w w' := by
  have hbd := hs.bd
  have ST0 := Lib.hid (St.start hR 29)
  have bp := hbd.p
  obtain ⟨i0, hi, hz0, hz1, hz2⟩ := info_parts info_int
  obtain ⟨i1, hi1, hy0, hy1, hy2⟩ := info_parts info_ints
  clear hR hbd
  go_enter Try.func19, Try.ntmps19
  go_wp2
  go_loopw [3, 4] (fun o i wr => ∃ (k : Nat) (vs : List Value), k ≤ c.parts.length ∧ i = .int .i64 k ∧ Hid (wr.ownsRow (w.heap.size + 1) 50 1 o k vs) ∧ Hid (OwnRs wr (w.heap.size + 1) (matTo c k) vs) ∧ Hid (St w (wr) c A1 A2 A3 A4 A5 c1 c2 c3 c4 c5)) (fun _ i _ => c.parts.length - (intOf i).toNat)
  case atStart => exact ⟨0, [], Nat.zero_le _, rfl, Lib.hid (World.ownsRow_nil _ _ _ _), Lib.hid ⟨rfl, by simp [matTo]⟩, ST0⟩
  case round =>
    obtain ⟨k, vs, hk, rfl, HO, HRS, ST⟩ := hrel
    obtain ⟨x0, x1, x2, x3, x4, x5, hz⟩ := ST.out.cells
    by_cases hlt : k < c.parts.length
    · obtain ⟨x, hx⟩ := get_lt hlt
      have HPI := Lib.hid (pid_at hx)
      have HX := Lib.hid hx
      clear hx
      obtain ⟨wo, rfl⟩ : ∃ wo : World, wo = wr := ⟨_, rfl⟩
      go_wp2
      clear x0 x1 x2 x3 x4 x5 hz
      go_loopw [5, 6] (fun r j wr => ∃ m : Nat, m ≤ c.parts.length ∧ j = .int .i64 m ∧ Hid (wr.ownsRow wo.heap.size 3 1 r (rowTo c k m).length ((rowTo c k m).map (Value.int .i64))) ∧ Hid (Below wo.heap.size wo wr)) (fun _ j _ => c.parts.length - (intOf j).toNat)
      case atStart => exact ⟨0, Nat.zero_le _, rfl, Lib.hid (World.ownsRow_nil _ _ _ _), Lib.hid (Below.refl _ _)⟩
      case round =>
        obtain ⟨m, hm, rfl, HR, HB⟩ := hrel
        have STj := Lib.hid (ST.out.up HB.out)
        obtain ⟨x0, x1, x2, x3, x4, x5, hz⟩ := STj.out.cells
        by_cases hltj : m < c.parts.length
        · obtain ⟨y, hy⟩ := get_lt hltj
          have HPJ := Lib.hid (pid_at hy)
          obtain ⟨b, o, rfl, hb, g0, _⟩ := par_at STj.out.R.parts HX.out
          obtain ⟨b', o', e', hb', g1, _⟩ := par_at STj.out.R.parts hy
          obtain ⟨rfl, rfl⟩ : b = b' ∧ o = o' := by simpa using e'
          clear hy e'
          have k0 : (0 : Int) ≤ (k : Int) := by omega
          have k1 : (k : Int) < (c.parts.length : Int) := by omega
          have m0 : (0 : Int) ≤ (m : Int) := by omega
          have m1 : (m : Int) < (c.parts.length : Int) := by omega
          have hub : sendsB c x.id y.id = true ∨ sendsB c x.id y.id = false := by cases sendsB c x.id y.id <;> simp
          rcases hub with hu | hu
          · have HU := Lib.hid hu
            have HN := Lib.hid (rowTo_yes (c := c) (i := k) (m := m) (by rw [HPI.out, HPJ.out]; exact hu))
            have hlen := rowTo_len c k m
            clear hu
            go_wp2_with fail
            refine wp_region_ext (by kernel_rfl) (by kernel_rfl) ?_
            repeat (go_big_quiet_step ((go_at_call 43; exact Calls.quiet_ext (sends_val c _ _ _ _ _ _ _ _ _ _ _ (STj.out.ext _).R hs hw x.id y.id true HU))))
            refine wpQuiet_nil ?_
            intro xq
            have HB2 := Lib.hid (Below.then_ HB.out (ext_below _ xq))
            have HR2 := Lib.hid (own_below HR.out (ext_below _ xq))
            clear x0 x1 x2 x3 x4 x5 hz g0 g1
            generalize ext wr xq = W2 at *
            obtain ⟨rA, rc, rfl, _⟩ := own_form HR2.out
            have HR3 := Lib.hid (own_below HR2.out (below_one W2 (.cells #[.int .i64 m] 3)))
            have hsz := HB2.out.size
            go_wp2_with (at_builtin; go_loud (refine wpList_append_rd _ rfl (.tmp 35) (.tmp 37) _ rfl wo.heap.size 3 i0 (.int .i64 0) 1 8 Try.underlying50 hi hz0 hz1 hz2 rfl (by decide) _ _ _ rfl HR3.out (W2.alloc (.cells #[.int .i64 m] 3)).heap.size (some ⟨W2.heap.size, 0, none⟩) 1 1 _ rfl (one_new W2 m 3) (by intro u hu; simp at hu; subst hu; rfl) (by unfold maxLen; omega) (by omega) (by simp; omega) ?_); intro v' w3 hown hg)
            have HB3 := Lib.hid (below_own (HB2.out.alloc hsz _) hg HR3.out (by simp; omega))
            have HO3 := Lib.hid (show w3.ownsRow wo.heap.size 3 1 v' (rowTo c k (m + 1)).length ((rowTo c k (m + 1)).map (Value.int .i64)) by rw [HN.out]; simpa using hown)
            clear hown hg
            go_roundw
            case rel => exact ⟨m + 1, by omega, by go_num, HO3, HB3⟩
            case measure => simp [intOf]; omega
          · have HU := Lib.hid hu
            have HN := Lib.hid (rowTo_no (c := c) (i := k) (m := m) (by rw [HPI.out, HPJ.out]; exact hu))
            clear hu
            go_wp2_with fail
            refine wp_region_ext (by kernel_rfl) (by kernel_rfl) ?_
            repeat (go_big_quiet_step ((go_at_call 43; exact Calls.quiet_ext (sends_val c _ _ _ _ _ _ _ _ _ _ _ (STj.out.ext _).R hs hw x.id y.id false HU))))
            refine wpQuiet_nil ?_
            intro xq
            go_wp2
            go_roundw
            case rel => exact ⟨m + 1, by omega, by go_num, Lib.hid (by rw [HN.out]; exact own_below HR.out (ext_below _ xq)), Lib.hid (Below.then_ HB.out (ext_below _ xq))⟩
            case measure => simp [intOf]; omega
        · obtain rfl : m = c.parts.length := by omega
          have HOj := Lib.hid (own_below HO.out HB.out)
          have HRSj := Lib.hid (HRS.out.keep fun _ _ _ h => own_below h HB.out)
          have hsz := HB.out.size
          have hsw : w.heap.size + 1 ≤ wo.heap.size := ST.out.z
          obtain ⟨rA, rc, rfl, _⟩ := own_form HR.out
          obtain ⟨oA, oc, rfl, _⟩ := own_form HOj.out
          have HO2 := Lib.hid (own_below HOj.out (below_one wr (.cells #[.slice rA (rowTo c k c.parts.length).length rc] 50)))
          go_wp2_with (at_builtin; go_loud (refine wpList_append_rd _ rfl (.tmp 39) (.tmp 41) _ rfl (w.heap.size + 1) 50 i1 (.slice none 0 0) 1 24 Try.underlying46 hi1 hy0 hy1 hy2 rfl (by decide) _ _ _ rfl HO2.out (wr.alloc (.cells #[.slice rA (rowTo c k c.parts.length).length rc] 50)).heap.size (some ⟨wr.heap.size, 0, none⟩) 1 1 _ rfl (one_slice wr rA _ rc 50) (by intro u hu; simp at hu; subst hu; rfl) (by unfold maxLen; omega) (by omega) (by simp; omega) ?_); intro v' w3 hown hg)
          have hoff := Off.of_own HO2.out hg
          have hal := below_one wr (.cells #[.slice rA (rowTo c k c.parts.length).length rc] 50)
          have HRS3 := Lib.hid (show OwnRs w3 (w.heap.size + 1) (matTo c (k + 1)) (vs ++ [.slice rA (rowTo c k c.parts.length).length rc]) by
            rw [matTo_next]
            exact (HRSj.out.keep fun _ _ _ h => own_off (own_below h hal) hoff (by decide)).snoc (own_off (own_below (own_less HR.out hsw) hal) hoff (by decide)))
          have HO3 := Lib.hid hown
          have hbw : Below (w.heap.size + 1) wo w3 := below_own (((HB.out.mono hsw).alloc (by omega) _)) hg HO2.out (by simp; omega)
          have ST3 := Lib.hid (ST.out.keep hbw)
          clear hown hg hoff hal hbw x0 x1 x2 x3 x4 x5 hz
          go_roundw
          case rel => exact ⟨k + 1, _, by omega, by go_num, HO3, HRS3, ST3⟩
          case measure => simp [intOf]; omega
    · obtain rfl : k = c.parts.length := by omega
      go_wp2
      go_ret
      exact ⟨_, rfl, ⟨vs, by rw [show (matRows c).length = c.parts.length from matTo_len c _]; exact own_less HO.out (by omega), HRS.out.keep fun _ _ _ h => own_less h (by omega)⟩, ST.out.bel⟩
end Go.Proofs.Ytifmcdnaaaphmaa
