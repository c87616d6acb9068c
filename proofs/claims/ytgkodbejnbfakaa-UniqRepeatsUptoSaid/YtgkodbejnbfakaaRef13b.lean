/-
  What the reference of layer 13 (uniq) computes: its checks, walked once.
-/
import Derived.Test.YtgkodbejnbfakaaRef13
import Derived.Deep.AppendLies
namespace Go.Proofs.Ytgkodbejnbfakaa
open Go.RowKit
theorem info_u16 : (Try.prog.info? 30).map (fun i => (i.zero, i.size, i.bytes)) = some (some (.int .u16 0), 1, 2) := by kernel_rfl
def refParts (c : Cfg) : Int := if 0 ≤ rep (c.parts.map (·.id)) then rep (c.parts.map (·.id)) else rep (c.parts.map (·.name))
theorem beqb_true {a b : ByteArray} (h : (a == b) = true) : a = b := by
  rw [beq_toListBytes, beq_iff_eq, ByteArray.toList_eq, ByteArray.toList_eq] at h
  cases a; cases b; simp at h; rw [h]
theorem beqb_false {a b : ByteArray} (h : (a == b) = false) : a ≠ b := by
  rintro rfl
  rw [beq_toListBytes] at h
  simp at h
def Prt.key (p : Prt) : Int × ByteArray := (p.part, p.name)
def refPorts (c : Cfg) : Int := if 0 ≤ rep (c.ports.map (·.id)) then rep (c.ports.map (·.id)) else rep (c.ports.map Prt.key)
theorem named_lt {l : List Prt} {i : Nat} {x : Prt} (hx : l[i]? = some x) : idx (fun y => y.part == x.part && y.name == x.name) l < (i : Int) ↔ x.key ∈ (l.map Prt.key).take i := by
  have key : ∀ (m : Nat) (l' : List Prt) (j : Nat), l'[j]? = some x → (idxFrom (fun y => y.part == x.part && y.name == x.name) m l' < ((m + j : Nat) : Int) ↔ x.key ∈ (l'.map Prt.key).take j) := by
    intro m l'
    induction l' generalizing m with
    | nil => intro j h; simp at h
    | cons y r ih =>
      intro j h
      unfold idxFrom
      by_cases hp : (y.part == x.part && y.name == x.name) = true
      · rw [if_pos hp]
        have hpp : y.key = x.key := by
          simp only [Bool.and_eq_true, beq_iff_eq] at hp
          unfold Prt.key
          rw [hp.1, beqb_true hp.2]
        cases j with
        | zero => simp
        | succ j =>
          rw [List.map_cons, List.take_succ_cons, List.mem_cons, hpp]
          constructor
          · intro _; exact Or.inl rfl
          · intro _; omega
      · rw [if_neg hp]
        have hpp : x.key ≠ y.key := fun e => by
          injection e with e1 e2
          exact hp (by rw [e1, e2, beq_toListBytes]; simp)
        cases j with
        | zero =>
          exfalso
          simp at h
          subst h
          exact hpp rfl
        | succ j =>
          have := ih (m + 1) j (by simpa using h)
          rw [List.map_cons, List.take_succ_cons, List.mem_cons, show m + (j + 1) = m + 1 + j from by omega, this]
          constructor
          · exact Or.inr
          · rintro (h1 | h1)
            · exact absurd h1 hpp
            · exact h1
  have := key 0 l i hx
  rw [Nat.zero_add] at this
  exact this
theorem own_form {w : World} {base : Nat} {e : TypeId} {size : Nat} {v : Value} {n : Nat} {xs : List Value} (h : w.ownsRow base e size v n xs) : ∃ A c, v = .slice A n c ∧ n ≤ c ∧ c ≤ maxLen ∧ Rd w w.heap.size size A n xs := by
  rcases h.2 with ⟨rfl, rfl⟩ | ⟨g, cap, cur, rfl, _, _, h1, h2, _⟩
  · have : xs = [] := List.eq_nil_of_length_eq_zero (by simpa using h.1)
    subst this
    exact ⟨none, 0, rfl, Nat.le_refl _, Nat.zero_le _, Rd.nil⟩
  · exact ⟨_, _, rfl, h1, h2, Rd.of_own h⟩
attribute [local go_sem] ext_cell
theorem below_own {B : Nat} {a w w' : World} {e : TypeId} {size n : Nat} {v : Value} {xs : List Value} (h : Below B a w) (hg : w.grownBy w' v.ownBlock) (ho : w.ownsRow B e size v n xs) (hB : B ≤ w.heap.size) : Below B a w' :=
  h.grown hg hB fun k hk => (ho.lt k hk).1
theorem map_next {q : IntKind} {l : List Int} {k : Nat} {x : Int} (h : l[k]? = some x) : (l.take k).map (Value.int q) ++ [Value.int q x] = (l.take (k + 1)).map (Value.int q) := by
  rw [take_next h, List.map_append]; rfl
theorem ids_get {α : Type} {f : α → Int} {l : List α} {k : Nat} {x : α} (h : l[k]? = some x) : (l.map f)[k]? = some (f x) := by simp [h]

set_option maxRecDepth 100000 in
set_option maxHeartbeats 1000000 in
theorem rChannels_ok (c : Cfg) (A1 A2 A3 A4 A5 : Option Addr) (c1 c2 c3 c4 c5 : Nat) (w : World) (hR : CfgR w w.heap.size c A1 A2 A3 A4 A5 c1 c2 c3 c4 c5) (hs : c.small) :
    Calls Try.prog 25 #[cfgV c.frame A1 A2 A3 A4 A5 c.parts.length c.wins.length c.regs.length c.ports.length c.chans.length c1 c2 c3 c4 c5] w fun e w' =>
      e = .returned (.int .i64 (rep (c.chans.map (·.id)))) ∧ Below w.heap.size w w' := by
  obtain ⟨i0, hi, hz0, hz1, hz2⟩ := info_parts info_u16
  have ht : c.total ≤ 1048576 := hs.total
  have b1 : c.chans.length ≤ 1048576 := by unfold Cfg.total at ht; omega
  obtain ⟨cs, hC, hP⟩ := hR.chans
  clear ht
  go_enter Try.func25, Try.ntmps25
  go_wp2
  go_loopw [3, 4] (fun v i wr => ∃ k : Nat, k ≤ c.chans.length ∧ i = .int .i64 k ∧ wr.ownsRow (w.heap.size + 1) 30 1 v k (((c.chans.map (·.id)).take k).map (Value.int .u16)) ∧ Below (w.heap.size + 1) (w.alloc (.cells #[.int .u64 c.frame, .slice A1 c.parts.length c1, .slice A2 c.wins.length c2, .slice A3 c.regs.length c3, .slice A4 c.ports.length c4, .slice A5 c.chans.length c5] 29)) wr) (fun _ i _ => c.chans.length - (intOf i).toNat)
  case atStart => exact ⟨0, Nat.zero_le _, rfl, by simpa using World.ownsRow_nil _ _ _ _, Below.refl _ _⟩
  case round =>
    obtain ⟨k, hk, rfl, hown, hbr⟩ := hrel
    have hz := hbr.size
    simp only [World.size_alloc] at hz
    have hbw : Below w.heap.size w wr := ((Below.refl _ _).alloc (Nat.le_refl _) _).trans (hbr.mono (by omega))
    have hbox : ∀ j, wr.cell? ⟨w.heap.size, j, none⟩ = (w.alloc (.cells #[.int .u64 c.frame, .slice A1 c.parts.length c1, .slice A2 c.wins.length c2, .slice A3 c.regs.length c3, .slice A4 c.ports.length c4, .slice A5 c.chans.length c5] 29)).cell? ⟨w.heap.size, j, none⟩ := fun j => hbr.cell (p := ⟨w.heap.size, j, none⟩) (by simp)
    have hbox1 := hbox 5
    simp at hbox1
    by_cases hlt : k < c.chans.length
    · obtain ⟨x, hx⟩ := get_lt hlt
      obtain ⟨b, o, rfl, hb, g0, _⟩ := chn_at (hC.keep fun _ _ hp => hbw.cell hp) (hP.below hbw) hx
      clear hC
      have HX := Lib.hid hx
      clear hx hbox hP hR hs
      go_wp2_with (first
        | (at_builtin; refine wpList_append_own _ rfl (.tmp 12) (.tmp 19) _ rfl (w.heap.size + 1) 30 i0 (.int .u16 0) 1 2 Try.underlying60 hi hz0 hz1 hz2 rfl (by decide) _ _ _ rfl (hown.alloc _) ⟨wr.heap.size, 0, none⟩ 1 1 [.int .u16 x.id] rfl rfl (cell_one_new _ _ _) (ints_oneCell .u16 [x.id]) (by unfold maxLen; omega) (by omega) (by simp; omega) ?_; intro v' w1 hown' hgrow _))
      go_roundw
      case rel =>
        refine ⟨k + 1, by omega, by go_num, ?_, ?_⟩
        · rw [map_next (ids_get HX.out)] at hown'; exact hown'
        · exact below_own (hbr.alloc (by omega) _) hgrow (hown.alloc _) (by simp; omega)
      case measure => simp [intOf]; omega
    · obtain rfl : k = c.chans.length := by omega
      obtain ⟨A, cp, rfl, _, _, hrd⟩ := own_form hown
      rw [List.take_of_length_le (by simp)] at hrd
      have hrep := Lib.hid (rRepeated_ok (c.chans.map (·.id)) A cp wr (by rw [List.length_map]; exact b1) (by rw [List.length_map]; exact hrd))
      rw [List.length_map] at hrep
      clear hbox hP hR hs
      go_wp2_with (go_at_call 34; refine hrep.out.mono ?_; rintro e w2 ⟨rfl, hb2⟩)
      go_ret
      exact ⟨rfl, hbw.trans (hb2.mono hbw.size)⟩

set_option maxRecDepth 100000 in
set_option maxHeartbeats 1000000 in
theorem rPartitions_ok (c : Cfg) (A1 A2 A3 A4 A5 : Option Addr) (c1 c2 c3 c4 c5 : Nat) (w : World) (hR : CfgR w w.heap.size c A1 A2 A3 A4 A5 c1 c2 c3 c4 c5) (hs : c.small) :
    Calls Try.prog 21 #[cfgV c.frame A1 A2 A3 A4 A5 c.parts.length c.wins.length c.regs.length c.ports.length c.chans.length c1 c2 c3 c4 c5] w fun e w' =>
      e = .returned (.int .i64 (refParts c)) ∧ Below w.heap.size w w' := by
  obtain ⟨i0, hi, hz0, hz1, hz2⟩ := info_parts info_u16
  have ht : c.total ≤ 1048576 := hs.total
  have b1 : c.parts.length ≤ 1048576 := by unfold Cfg.total at ht; omega
  have hP := hR.parts
  clear ht
  go_enter Try.func21, Try.ntmps21
  go_wp2
  go_loopw [3, 4] (fun v i wr => ∃ k : Nat, k ≤ c.parts.length ∧ i = .int .i64 k ∧ wr.ownsRow (w.heap.size + 1) 30 1 v k (((c.parts.map (·.id)).take k).map (Value.int .u16)) ∧ Below (w.heap.size + 1) (w.alloc (.cells #[.int .u64 c.frame, .slice A1 c.parts.length c1, .slice A2 c.wins.length c2, .slice A3 c.regs.length c3, .slice A4 c.ports.length c4, .slice A5 c.chans.length c5] 29)) wr) (fun _ i _ => c.parts.length - (intOf i).toNat)
  case atStart => exact ⟨0, Nat.zero_le _, rfl, by simpa using World.ownsRow_nil _ _ _ _, Below.refl _ _⟩
  case round =>
    obtain ⟨k, hk, rfl, hown, hbr⟩ := hrel
    have hz := hbr.size
    simp only [World.size_alloc] at hz
    have hbw : Below w.heap.size w wr := ((Below.refl _ _).alloc (Nat.le_refl _) _).trans (hbr.mono (by omega))
    have hbox : ∀ j, wr.cell? ⟨w.heap.size, j, none⟩ = (w.alloc (.cells #[.int .u64 c.frame, .slice A1 c.parts.length c1, .slice A2 c.wins.length c2, .slice A3 c.regs.length c3, .slice A4 c.ports.length c4, .slice A5 c.chans.length c5] 29)).cell? ⟨w.heap.size, j, none⟩ := fun j => hbr.cell (p := ⟨w.heap.size, j, none⟩) (by simp)
    have hbox1 := hbox 1
    simp at hbox1
    by_cases hlt : k < c.parts.length
    · obtain ⟨x, hx⟩ := get_lt hlt
      obtain ⟨b, o, rfl, hb, g0, _⟩ := par_at (hP.below hbw) hx
      have HX := Lib.hid hx
      clear hx hbox hP hR hs
      go_wp2_with (first
        | (at_builtin; refine wpList_append_own _ rfl (.tmp 15) (.tmp 22) _ rfl (w.heap.size + 1) 30 i0 (.int .u16 0) 1 2 Try.underlying60 hi hz0 hz1 hz2 rfl (by decide) _ _ _ rfl (hown.alloc _) ⟨wr.heap.size, 0, none⟩ 1 1 [.int .u16 x.id] rfl rfl (cell_one_new _ _ _) (ints_oneCell .u16 [x.id]) (by unfold maxLen; omega) (by omega) (by simp; omega) ?_; intro v' w1 hown' hgrow _))
      go_roundw
      case rel =>
        refine ⟨k + 1, by omega, by go_num, ?_, ?_⟩
        · rw [map_next (ids_get HX.out)] at hown'; exact hown'
        · exact below_own (hbr.alloc (by omega) _) hgrow (hown.alloc _) (by simp; omega)
      case measure => simp [intOf]; omega
    · obtain rfl : k = c.parts.length := by omega
      obtain ⟨A, cp, rfl, _, _, hrd⟩ := own_form hown
      rw [List.take_of_length_le (by simp)] at hrd
      have hrep := Lib.hid (rRepeated_ok (c.parts.map (·.id)) A cp wr (by rw [List.length_map]; exact b1) (by rw [List.length_map]; exact hrd))
      rw [List.length_map] at hrep
      clear hbox hR hs
      go_wp2_with (go_at_call 34; refine hrep.out.mono ?_; rintro e w2 ⟨rfl, hb2⟩)
      · have h0 : 0 ≤ rep (c.parts.map (·.id)) := by assumption
        go_ret
        exact ⟨ret_int (if_pos h0).symm, hbw.trans (hb2.mono hbw.size)⟩
      · have h0 : rep (c.parts.map (·.id)) < 0 := by assumption
        have hz2 := hb2.size
        have hbw2 : Below w.heap.size w w2 := hbw.trans (hb2.mono hbw.size)
        have hbox2 : w2.cell? ⟨w.heap.size, 1, none⟩ = some (.slice A1 c.parts.length c1) := (hb2.cell (p := ⟨w.heap.size, 1, none⟩) (by show w.heap.size < _; omega)).trans hbox1
        clear hbox1 hown hrd hrep hbr
        have HE := Lib.hid (show refParts c = rep (c.parts.map (·.name)) from if_neg (by omega))
        have hP2 := hP.below hbw2
        clear hP
        obtain ⟨wp, rfl⟩ : ∃ wp : World, wp = wr := ⟨_, rfl⟩
        go_loopw [6] (fun i wr => ∃ k : Nat, k ≤ c.parts.length ∧ i = .int .i64 k ∧ Hid (rep (c.parts.map (·.name)) = repFrom ((c.parts.map (·.name)).take k) k ((c.parts.map (·.name)).drop k)) ∧ Below w2.heap.size w2 wr) (fun i _ => c.parts.length - (intOf i).toNat)
        case atStart => exact ⟨0, Nat.zero_le _, rfl, Lib.hid rfl, Below.refl _ _⟩
        case round =>
          obtain ⟨i, hi, rfl, hrest, hbo⟩ := hrel
          have hboxo : wr.cell? ⟨w.heap.size, 1, none⟩ = some (.slice A1 c.parts.length c1) := (hbo.cell (p := ⟨w.heap.size, 1, none⟩) (by show w.heap.size < _; omega)).trans hbox2
          by_cases hlt : i < c.parts.length
          · obtain ⟨x, hx⟩ := get_lt hlt
            have hxn : (c.parts.map (·.name))[i]? = some x.name := by simp [hx]
            obtain ⟨wo, rfl⟩ : ∃ wo : World, wo = wr := ⟨_, rfl⟩
            have HX := Lib.hid hx
            have HXN := Lib.hid hxn
            clear hx hxn
            go_wp2
            go_loopw [7] (fun j wr => ∃ k : Nat, k ≤ i ∧ j = .int .i64 k ∧ Hid (x.name ∉ (c.parts.map (·.name)).take k) ∧ Below w2.heap.size w2 wr) (fun j _ => i - (intOf j).toNat)
            case atStart => exact ⟨0, Nat.zero_le _, rfl, Lib.hid (by simp), hbo⟩
            case round =>
              obtain ⟨k, hk, rfl, hno, hbr⟩ := hrel
              have hboxr : wr.cell? ⟨w.heap.size, 1, none⟩ = some (.slice A1 c.parts.length c1) := (hbr.cell (p := ⟨w.heap.size, 1, none⟩) (by show w.heap.size < _; omega)).trans hbox2
              by_cases hki : k < i
              · obtain ⟨y, hy⟩ := get_lt (l := c.parts) (k := k) (by omega)
                have hPr := hP2.below (hbr.mono hbw2.size)
                obtain ⟨b, o, rfl, hb, _, g0, _⟩ := par_at hPr hy
                obtain ⟨b', o', e, _, _, g1, _⟩ := par_at hPr HX.out
                obtain ⟨rfl, rfl⟩ : b = b' ∧ o = o' := by simpa using e
                have HYN := Lib.hid (show (c.parts.map (·.name))[k]? = some y.name by simp [hy])
                have n0 : (0 : Int) ≤ (k : Int) := by omega
                have n1 : (k : Int) < (c.parts.length : Int) := by omega
                have n2 : (0 : Int) ≤ (i : Int) := by omega
                have n3 : (i : Int) < (c.parts.length : Int) := by omega
                clear hy hP2 e hPr hbox2 hboxo
                rcases beqb_cases y.name x.name with hp | hp
                · have HQ := Lib.hid (show y.name = x.name from beqb_true hp)
                  rw [beq_toListBytes] at hp
                  go_wp2
                  go_quiet (fail)
                  go_wp2
                  go_ret
                  exact ⟨ret_int (by rw [HE.out]; exact (rep_hit hrest.out HXN.out (HQ.out ▸ mem_take_of HYN.out hki)).symm), below_drewN (hbw2.trans (hbr.mono hbw2.size)) _⟩
                · have HQ := Lib.hid (show y.name ≠ x.name from beqb_false hp)
                  rw [beq_toListBytes] at hp
                  go_wp2
                  go_quiet (fail)
                  go_wp2
                  go_roundw
                  case rel => exact ⟨k + 1, by omega, by go_num, Lib.hid (not_mem_next HYN.out hno.out HQ.out), below_drewN hbr _⟩
                  case measure => simp [intOf]; omega
              · obtain rfl : k = i := by omega
                go_wp2
                go_roundw
                case rel => exact ⟨k + 1, by omega, by go_num, Lib.hid (rep_miss hrest.out HXN.out hno.out), hbr⟩
                case measure => simp [intOf]; omega
          · obtain rfl : i = c.parts.length := by omega
            go_wp2
            go_ret
            exact ⟨ret_int (by rw [HE.out]; exact (rep_end (l := c.parts.map (·.name)) (by rw [List.length_map]; exact hrest.out)).symm), hbw2.trans (hbo.mono hbw2.size)⟩

set_option maxRecDepth 100000 in
set_option maxHeartbeats 1000000 in
theorem rPorts_ok (c : Cfg) (A1 A2 A3 A4 A5 : Option Addr) (c1 c2 c3 c4 c5 : Nat) (w : World) (hR : CfgR w w.heap.size c A1 A2 A3 A4 A5 c1 c2 c3 c4 c5) (hs : c.small) :
    Calls Try.prog 23 #[cfgV c.frame A1 A2 A3 A4 A5 c.parts.length c.wins.length c.regs.length c.ports.length c.chans.length c1 c2 c3 c4 c5] w fun e w' =>
      e = .returned (.int .i64 (refPorts c)) ∧ Below w.heap.size w w' := by
  obtain ⟨i0, hi, hz0, hz1, hz2⟩ := info_parts info_u16
  have ht : c.total ≤ 1048576 := hs.total
  have b1 : c.ports.length ≤ 1048576 := by unfold Cfg.total at ht; omega
  have hP := hR.ports
  have HR := Lib.hid hR
  have HS := Lib.hid hs
  clear ht
  go_enter Try.func23, Try.ntmps23
  go_wp2
  go_loopw [3, 4] (fun v i wr => ∃ k : Nat, k ≤ c.ports.length ∧ i = .int .i64 k ∧ wr.ownsRow (w.heap.size + 1) 30 1 v k (((c.ports.map (·.id)).take k).map (Value.int .u16)) ∧ Below (w.heap.size + 1) (w.alloc (.cells #[.int .u64 c.frame, .slice A1 c.parts.length c1, .slice A2 c.wins.length c2, .slice A3 c.regs.length c3, .slice A4 c.ports.length c4, .slice A5 c.chans.length c5] 29)) wr) (fun _ i _ => c.ports.length - (intOf i).toNat)
  case atStart => exact ⟨0, Nat.zero_le _, rfl, by simpa using World.ownsRow_nil _ _ _ _, Below.refl _ _⟩
  case round =>
    obtain ⟨k, hk, rfl, hown, hbr⟩ := hrel
    have hz := hbr.size
    simp only [World.size_alloc] at hz
    have hbw : Below w.heap.size w wr := ((Below.refl _ _).alloc (Nat.le_refl _) _).trans (hbr.mono (by omega))
    have hbox : ∀ j, wr.cell? ⟨w.heap.size, j, none⟩ = (w.alloc (.cells #[.int .u64 c.frame, .slice A1 c.parts.length c1, .slice A2 c.wins.length c2, .slice A3 c.regs.length c3, .slice A4 c.ports.length c4, .slice A5 c.chans.length c5] 29)).cell? ⟨w.heap.size, j, none⟩ := fun j => hbr.cell (p := ⟨w.heap.size, j, none⟩) (by simp)
    have hbox1 := hbox 4
    simp at hbox1
    by_cases hlt : k < c.ports.length
    · obtain ⟨x, hx⟩ := get_lt hlt
      obtain ⟨b, o, rfl, hb, g0, _⟩ := prt_at (hP.below hbw) hx
      have HX := Lib.hid hx
      clear hx hbox hP hR hs
      go_wp2_with (first
        | (at_builtin; refine wpList_append_own _ rfl (.tmp 14) (.tmp 21) _ rfl (w.heap.size + 1) 30 i0 (.int .u16 0) 1 2 Try.underlying60 hi hz0 hz1 hz2 rfl (by decide) _ _ _ rfl (hown.alloc _) ⟨wr.heap.size, 0, none⟩ 1 1 [.int .u16 x.id] rfl rfl (cell_one_new _ _ _) (ints_oneCell .u16 [x.id]) (by unfold maxLen; omega) (by omega) (by simp; omega) ?_; intro v' w1 hown' hgrow _))
      go_roundw
      case rel =>
        refine ⟨k + 1, by omega, by go_num, ?_, ?_⟩
        · rw [map_next (ids_get HX.out)] at hown'; exact hown'
        · exact below_own (hbr.alloc (by omega) _) hgrow (hown.alloc _) (by simp; omega)
      case measure => simp [intOf]; omega
    · obtain rfl : k = c.ports.length := by omega
      obtain ⟨A, cp, rfl, _, _, hrd⟩ := own_form hown
      rw [List.take_of_length_le (by simp)] at hrd
      have hrep := Lib.hid (rRepeated_ok (c.ports.map (·.id)) A cp wr (by rw [List.length_map]; exact b1) (by rw [List.length_map]; exact hrd))
      rw [List.length_map] at hrep
      clear hR hs
      go_wp2_with (go_at_call 34; refine hrep.out.mono ?_; rintro e w2 ⟨rfl, hb2⟩)
      · have h0 : 0 ≤ rep (c.ports.map (·.id)) := by assumption
        go_ret
        exact ⟨ret_int (if_pos h0).symm, hbw.trans (hb2.mono hbw.size)⟩
      · have h0 : rep (c.ports.map (·.id)) < 0 := by assumption
        have hz2 := hb2.size
        have hbw2 : Below w.heap.size w w2 := hbw.trans (hb2.mono hbw.size)
        have hbox2 : ∀ j, w2.cell? ⟨w.heap.size, j, none⟩ = (w.alloc (.cells #[.int .u64 c.frame, .slice A1 c.parts.length c1, .slice A2 c.wins.length c2, .slice A3 c.regs.length c3, .slice A4 c.ports.length c4, .slice A5 c.chans.length c5] 29)).cell? ⟨w.heap.size, j, none⟩ :=
          fun j => (hb2.cell (p := ⟨w.heap.size, j, none⟩) (by show w.heap.size < _; omega)).trans (hbox j)
        clear hbox1 hown hrd hrep hbr hbox
        have HE := Lib.hid (show refPorts c = rep (c.ports.map Prt.key) from if_neg (by omega))
        have hP2 := hP.below hbw2
        have HB2 := Lib.hid hbox2
        clear hP hbox2
        obtain ⟨wp, rfl⟩ : ∃ wp : World, wp = wr := ⟨_, rfl⟩
        go_loopw [6] (fun i wr => ∃ k : Nat, k ≤ c.ports.length ∧ i = .int .i64 k ∧ Hid (rep (c.ports.map Prt.key) = repFrom ((c.ports.map Prt.key).take k) k ((c.ports.map Prt.key).drop k)) ∧ Below w2.heap.size w2 wr) (fun i _ => c.ports.length - (intOf i).toNat)
        case atStart => exact ⟨0, Nat.zero_le _, rfl, Lib.hid rfl, Below.refl _ _⟩
        case round =>
          obtain ⟨i, hi, rfl, hrest, hbo⟩ := hrel
          have hzo := hbo.size
          have q : ∀ j, wr.cell? ⟨w.heap.size, j, none⟩ = (w.alloc (.cells #[.int .u64 c.frame, .slice A1 c.parts.length c1, .slice A2 c.wins.length c2, .slice A3 c.regs.length c3, .slice A4 c.ports.length c4, .slice A5 c.chans.length c5] 29)).cell? ⟨w.heap.size, j, none⟩ :=
            fun j => (hbo.cell (p := ⟨w.heap.size, j, none⟩) (by show w.heap.size < _; omega)).trans (HB2.out j)
          have q0 := q 0
          have q1 := q 1
          have q2 := q 2
          have q3 := q 3
          have q4 := q 4
          have q5 := q 5
          simp at q0 q1 q2 q3 q4 q5
          clear q
          have hwr : w.heap.size < wr.heap.size := by omega
          by_cases hlt : i < c.ports.length
          · obtain ⟨x, hx⟩ := get_lt hlt
            have hxn : (c.ports.map Prt.key)[i]? = some x.key := by simp [hx]
            have hPr := hP2.below (hbo.mono hbw2.size)
            obtain ⟨b, o, rfl, hb, _, g1, g2, _⟩ := prt_at hPr hx
            have hb' : b < wr.heap.size := by omega
            have HL := Lib.hid (named_lt hx)
            have HXN := Lib.hid hxn
            have n2 : (0 : Int) ≤ (i : Int) := by omega
            have n3 : (i : Int) < (c.ports.length : Int) := by omega
            clear hx hxn hPr hP2
            by_cases hin : x.key ∈ (c.ports.map Prt.key).take i
            · have hd : decide (idx (fun y => y.part == x.part && y.name == x.name) c.ports < (i : Int)) = true := by exact decide_eq_true (HL.out.2 hin)
              have HIN := Lib.hid hin
              clear hin
              go_wp2
              refine wp_region_ext (by kernel_rfl) (by kernel_rfl) ?_
              repeat (go_big_quiet_step ((go_at_call 12; exact Calls.quiet_ext (rNamed_ok c _ _ _ _ _ _ _ _ _ _ _ ((HR.out.up hbw2).up hbo |>.up (ext_below _ _)) HS.out _ _))))
              refine wpQuiet_nil ?_
              intro xq
              go_wp2
              go_ret
              exact ⟨ret_int (by rw [HE.out]; exact (rep_hit hrest.out HXN.out HIN.out).symm), (hbw2.trans (hbo.mono hbw2.size)).trans ((ext_below _ _).mono (by omega))⟩
            · have hd : decide (idx (fun y => y.part == x.part && y.name == x.name) c.ports < (i : Int)) = false := by exact decide_eq_false fun e => hin (HL.out.1 e)
              have HIN := Lib.hid hin
              clear hin
              go_wp2
              refine wp_region_ext (by kernel_rfl) (by kernel_rfl) ?_
              repeat (go_big_quiet_step ((go_at_call 12; exact Calls.quiet_ext (rNamed_ok c _ _ _ _ _ _ _ _ _ _ _ ((HR.out.up hbw2).up hbo |>.up (ext_below _ _)) HS.out _ _))))
              refine wpQuiet_nil ?_
              intro xq
              go_wp2
              go_roundw
              case rel => exact ⟨i + 1, by omega, by go_num, Lib.hid (rep_miss hrest.out HXN.out HIN.out), hbo.trans ((ext_below _ _).mono hbo.size)⟩
              case measure => simp [intOf]; omega
          · obtain rfl : i = c.ports.length := by omega
            go_wp2
            go_ret
            exact ⟨ret_int (by rw [HE.out]; exact (rep_end (l := c.ports.map Prt.key) (by rw [List.length_map]; exact hrest.out)).symm), hbw2.trans (hbo.mono hbw2.size)⟩
end Go.Proofs.Ytgkodbejnbfakaa
