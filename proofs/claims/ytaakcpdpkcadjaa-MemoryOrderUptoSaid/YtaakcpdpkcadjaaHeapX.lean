/-
  container/heap over a queue of package sweep, walked: up, Init, Pop, Fix. No condition but on sizes.
-/
import Derived.Test.YtaakcpdpkcadjaaHeapW
namespace Go.Proofs.Ytaakcpdpkcadjaa
open Go.RowKit Go.Shelf
set_option maxRecDepth 100000 in
set_option maxHeartbeats 4000000 in
theorem hUp_ok {W : World} {q base : Nat} {f : FuncId} {v : Value} {l : List Itm} {key : Itm → Int} {ok : Itm → Prop} (h : Que W q base f v l) (hL : LessF f key ok) (hf : ∀ a w, (callFunc f a).run Try.prog w = .ok (.enter f a) w) (hall : ∀ x ∈ l, ok x) (j0 n : Nat) (hn : n ≤ l.length) (hs : UpInv key l l n j0) :
    Calls Try.prog 72 #[qI q, .int .i64 j0] W fun e w' => e = .returned (.tuple #[]) ∧ ∃ (l' : List Itm), Que w' q base f v l' ∧ QStep W w' q v v ∧ l'.Perm l ∧ HeapFrom key l' n 0 := by
  have hlen := h.len
  have hm1 := mLess q
  have hm2 := mSwap q
  have HS := Lib.hid hs
  have HQ := Lib.hid h
  have HL := Lib.hid hL
  have HALL := Lib.hid hall
  have HF := Lib.hid hf
  clear h hL hall hs hf
  go_enter Try.func72, Try.ntmps72
  go_wp2
  go_loopw [1] (fun s wr => ∃ (j : Nat) (l' : List Itm), s = .int .i64 j ∧ Hid (UpInv key l l' n j) ∧ Hid (Que wr q base f v l') ∧ Hid (QStep W wr q v v)) (fun s _ => (intOf s).toNat)
  case atStart => exact ⟨j0, l, rfl, HS, HQ, Lib.hid (.of_below (Below.refl _ _))⟩
  case round =>
    obtain ⟨j, l', rfl, HD, HQ', HST⟩ := hrel
    have hll := HD.out.len
    have hjn := HD.out.jn
    have HALL' := Lib.hid (all_perm HALL.out HD.out.perm)
    rcases Nat.eq_zero_or_pos j with rfl | hj
    · have HH := Lib.hid (HD.out.done (.inl rfl))
      go_wp2
      go_end0
      exact ⟨rfl, l', HQ'.out, HST.out, HD.out.perm, HH.out⟩
    · have j1 : (0 : Int) ≤ (j : Int) - 1 := by omega
      have j2 : (1 : Int) ≤ (j : Int) := by omega
      have hne : ¬ ((j : Int) - 1) / 2 = (j : Int) := by omega
      have hne2 : (((j : Int) - 1) / 2 == (j : Int)) = false := by simpa using hne
      obtain ⟨c2, hc2⟩ : ∃ c, c = decide (kv key l' j < kv key l' ((j - 1) / 2)) := ⟨_, rfl⟩
      have HC2 := Lib.hid hc2
      rcases Bool.eq_false_or_eq_true c2 with rfl | rfl
      · have hlt := of_decide_eq_true hc2.symm
        have HD2 := Lib.hid (HD.out.step hj hlt)
        clear hc2 hlt
        go_wp2_with fail
        refine (qLess_at HQ'.out HL.out HF.out HALL'.out j ((j - 1) / 2) (by omega) (by omega) _ _ (by omega) (by omega) true HC2.out).mono ?_
        rintro e w1 ⟨rfl, hb1⟩
        have HQ1 := Lib.hid (HQ'.out.up hb1)
        have HST1 := Lib.hid (HST.out.trans (.of_below hb1))
        clear hb1
        go_wp2_with fail
        refine (qSwap_at HQ1.out ((j - 1) / 2) j (by omega) (by omega) _ _ (by omega) (by omega)).mono ?_
        rintro e w2 ⟨rfl, hq3, hg3⟩
        have HQ2 := Lib.hid hq3
        have HST2 := Lib.hid (HST1.out.trans (.of_grown hg3))
        clear hq3 hg3
        go_wp2
        go_roundw
        case rel => exact ⟨(j - 1) / 2, _, by rw [show ((j : Int) - 1) / 2 = (((j - 1) / 2 : Nat) : Int) by omega], HD2, HQ2, HST2⟩
        case measure => simp [intOf]; omega
      · have hnl := of_decide_eq_false hc2.symm
        have HH := Lib.hid (HD.out.done (.inr (by omega)))
        clear hc2 hnl
        go_wp2_with fail
        refine (qLess_at HQ'.out HL.out HF.out HALL'.out j ((j - 1) / 2) (by omega) (by omega) _ _ (by omega) (by omega) false HC2.out).mono ?_
        rintro e w1 ⟨rfl, hb1⟩
        have HQ1 := Lib.hid (HQ'.out.up hb1)
        have HST1 := Lib.hid (HST.out.trans (.of_below hb1))
        clear hb1
        go_wp2
        go_end0
        exact ⟨rfl, l', HQ1.out, HST1.out, HD.out.perm, HH.out⟩
theorem hDown_at {W : World} {q base : Nat} {f : FuncId} {v : Value} {l : List Itm} {key : Itm → Int} {ok : Itm → Prop} (h : Que W q base f v l) (hL : LessF f key ok) (hf : ∀ a w, (callFunc f a).run Try.prog w = .ok (.enter f a) w) (hall : ∀ x ∈ l, ok x) (i0 n : Nat) (hi0 : i0 ≤ 4194304) (hn : n ≤ l.length) (hh : HeapFrom key l n (i0 + 1)) (a b : Int) (ha : a = (i0 : Int)) (hb : b = (n : Int)) :
    Calls Try.prog 71 #[qI q, .int .i64 a, .int .i64 b] W fun e w' => ∃ (b : Bool) (l' : List Itm), e = .returned (.bool b) ∧ Que w' q base f v l' ∧ QStep W w' q v v ∧ (l'.Perm l ∧ (∀ j, n ≤ j → l'[j]? = l[j]?) ∧ HeapFrom key l' n i0 ∧ (n ≤ 2 * i0 + 1 → b = false ∧ l' = l)) := by
  subst ha hb
  exact hDown_ok h hL hf hall i0 n hi0 hn hh
set_option maxRecDepth 100000 in
set_option maxHeartbeats 4000000 in
theorem hInit_ok {W : World} {q base : Nat} {f : FuncId} {v : Value} {l : List Itm} {key : Itm → Int} {ok : Itm → Prop} (h : Que W q base f v l) (hL : LessF f key ok) (hf : ∀ a w, (callFunc f a).run Try.prog w = .ok (.enter f a) w) (hall : ∀ x ∈ l, ok x) :
    Calls Try.prog 63 #[qI q] W fun e w' => e = .returned (.tuple #[]) ∧ ∃ (l' : List Itm), Que w' q base f v l' ∧ QStep W w' q v v ∧ l'.Perm l ∧ HeapFrom key l' l'.length 0 := by
  have hlen := h.len
  have hm := mLen q
  have HQ := Lib.hid h
  have HL := Lib.hid hL
  have HALL := Lib.hid hall
  have HF := Lib.hid hf
  have HS := Lib.hid (HeapFrom.none (key := key) (l := l) (n := l.length) (s := l.length / 2) (by omega))
  clear h hL hall hf
  go_enter Try.func63, Try.ntmps63
  go_wp2_with fail
  refine (qLen_ok HQ.out).mono ?_
  rintro e w1 ⟨rfl, rfl⟩
  go_wp2
  go_loopw [3] (fun s wr => ∃ (k : Nat) (j : Int) (l' : List Itm), s = .int .i64 j ∧ -1 ≤ j ∧ j < 4194304 ∧ Hid ((k : Int) = j + 1) ∧ l'.length = l.length ∧ Hid (HeapFrom key l' l.length k) ∧ Hid (l'.Perm l) ∧ Hid (Que wr q base f v l') ∧ Hid (QStep W wr q v v)) (fun s _ => (intOf s + 1).toNat)
  case atStart => exact ⟨l.length / 2, (l.length : Int) / 2 - 1, l, rfl, by omega, by omega, Lib.hid (by omega), rfl, HS, Lib.hid (List.Perm.refl _), HQ, Lib.hid (.of_below (Below.refl _ _))⟩
  case round =>
    obtain ⟨k, j, l', rfl, hj0, hj1, HK, hll, HH, HP, HQ', HST⟩ := hrel
    by_cases hj : 0 ≤ j
    · obtain ⟨m, rfl⟩ : ∃ m : Nat, j = (m : Int) := ⟨j.toNat, by omega⟩
      obtain rfl : k = m + 1 := by have := HK.out; omega
      go_wp2_with fail
      refine (hDown_at HQ'.out HL.out HF.out (all_perm HALL.out HP.out) m l.length (by omega) (by omega) HH.out _ _ rfl rfl).mono ?_
      rintro e w2 ⟨b, l2, rfl, hq2, hs2, hp2, _, hh2, _⟩
      have HQ2 := Lib.hid hq2
      have HS2 := Lib.hid (HST.out.trans hs2)
      have HP2 := Lib.hid (hp2.trans HP.out)
      have hl2 : l2.length = l.length := by rw [hp2.length_eq]; exact hll
      have HH2 := Lib.hid hh2
      clear hq2 hs2 hp2 hh2
      go_wp2
      go_roundw
      case rel => exact ⟨m, (m : Int) - 1, l2, by go_num, by omega, by omega, Lib.hid (by omega), hl2, HH2, HP2, HQ2, HS2⟩
      case measure => first | (simp [intOf]; done) | (simp [intOf]; omega)
    · obtain rfl : j = -1 := by omega
      obtain rfl : k = 0 := by have := HK.out; omega
      go_wp2
      go_end0
      exact ⟨rfl, l', HQ'.out, HST.out, HP.out, by rw [hll]; exact HH.out⟩
/-- what is left behind the least -/
theorem pop_plain {key : Itm → Int} {l l2 : List Itm} {m : Nat} (hm : l.length = m + 1) (hh : HeapFrom key l l.length 0) (hp : l2.Perm (swp l 0 m)) (ht : ∀ j, m ≤ j → l2[j]? = (swp l 0 m)[j]?) (h2 : HeapFrom key l2 m 0) :
    ∃ x l3, l2 = l3 ++ [x] ∧ l3.length = m ∧ (x :: l3).Perm l ∧ HeapFrom key l3 l3.length 0 ∧ ∀ y ∈ l, key x ≤ key y := by
  obtain ⟨x, hx⟩ := get_lt (l := l) (k := 0) (by omega)
  have hlast : l2[m]? = some x := by rw [ht m (Nat.le_refl _), swp_get (by omega) (by omega), if_pos rfl, hx]
  have hl2 : l2.length = m + 1 := by rw [hp.length_eq, swp_len, hm]
  have e : l2 = l2.take m ++ [x] := by
    have := take_next hlast
    rw [← this, List.take_of_length_le (by omega)]
  refine ⟨x, l2.take m, e, by simp; omega, ?_, ?_, ?_⟩
  · have h1 : (x :: l2.take m).Perm l2 := by
      have := (List.perm_append_singleton x (l2.take m)).symm
      rw [← e] at this
      exact this
    exact (h1.trans hp).trans (swp_perm l 0 m)
  · have hlm : (l2.take m).length = m := by simp; omega
    rw [hlm]
    rw [e] at h2
    exact (heap_append (by rw [hlm]; exact Nat.le_refl _)).1 h2
  · intro y hy
    obtain ⟨j, hj⟩ := List.mem_iff_getElem?.1 hy
    have := heap_min hh j (List.getElem?_eq_some_iff.1 hj).1
    rwa [kv_at hx, kv_at hj] at this
theorem swap_heap {key : Itm → Int} {l : List Itm} {m : Nat} (hm : l.length = m + 1) (hh : HeapFrom key l l.length 0) : HeapFrom key (swp l 0 m) m 1 := fun j h0 h1 h2 => by
  rw [kv_swp (by omega) (by omega), kv_swp (by omega) (by omega), if_neg (by omega), if_neg (by omega), if_neg (by omega), if_neg (by omega)]
  exact hh j h0 (by omega) (Nat.zero_le _)
set_option maxRecDepth 100000 in
set_option maxHeartbeats 4000000 in
theorem hPop_ok {W : World} {q base : Nat} {f : FuncId} {v : Value} {l : List Itm} {key : Itm → Int} {ok : Itm → Prop} (h : Que W q base f v l) (hL : LessF f key ok) (hf : ∀ a w, (callFunc f a).run Try.prog w = .ok (.enter f a) w) (hall : ∀ x ∈ l, ok x) (hh : HeapFrom key l l.length 0) (hpos : 0 < l.length) :
    Calls Try.prog 66 #[qI q] W fun e w' => ∃ (x : Itm) (l' : List Itm) (v' : Value), e = .returned (.iface 115 x.val) ∧ Que w' q base f v' l' ∧ QStep W w' q v v' ∧ (x :: l').Perm l ∧ HeapFrom key l' l'.length 0 ∧ ∀ y ∈ l, key x ≤ key y := by
  obtain ⟨m, hm⟩ : ∃ m, l.length = m + 1 := ⟨l.length - 1, by omega⟩
  have hlen := h.len
  have hm1 := mLen q
  have hm2 := mSwap q
  have hm3 := mPop q
  have HQ := Lib.hid h
  have HL := Lib.hid hL
  have HALL := Lib.hid hall
  have HF := Lib.hid hf
  have HH := Lib.hid hh
  have HM := Lib.hid hm
  have HSW := Lib.hid (swap_heap hm hh)
  clear h hL hall hf hh hpos
  go_enter Try.func66, Try.ntmps66
  go_wp2_with fail
  refine (qLen_ok HQ.out).mono ?_
  rintro e w1 ⟨rfl, rfl⟩
  rw [hm]
  have hmb : m ≤ 4194304 := by omega
  clear hm
  go_wp2_with fail
  refine (qSwap_at HQ.out 0 m (by have := HM.out; omega) (by have := HM.out; omega) _ _ (by omega) (by omega)).mono ?_
  rintro e w2 ⟨rfl, hq2, hg2⟩
  have HQ2 := Lib.hid hq2
  have HS2 := Lib.hid (QStep.of_grown (q := q) hg2)
  clear hq2 hg2
  go_wp2_with fail
  refine (hDown_at HQ2.out HL.out HF.out (all_perm HALL.out (swp_perm l 0 m)) 0 m (by omega) (by rw [swp_len]; have := HM.out; omega) HSW.out _ _ (by omega) (by omega)).mono ?_
  rintro e w3 ⟨b, l2, rfl, hq3, hs3, hp3, ht3, hh3, _⟩
  obtain ⟨x, l3, rfl, hl3, hp, hh4, hmin⟩ := pop_plain HM.out HH.out hp3 ht3 hh3
  have HQ3 := Lib.hid hq3
  have HS3 := Lib.hid (HS2.out.trans hs3)
  have HR := Lib.hid (And.intro hp (And.intro hh4 hmin))
  clear hq3 hs3 hp3 ht3 hh3 hp hh4 hmin
  go_wp2_with fail
  refine (qPop_ok HQ3.out).mono ?_
  rintro e w4 ⟨rfl, v', hq4, hs4⟩
  have HQ4 := Lib.hid hq4
  have HS4 := Lib.hid (HS3.out.trans hs4)
  clear hq4 hs4
  go_wp2
  go_ret
  exact ⟨x, l3, v', rfl, HQ4.out, HS4.out, HR.out.1, HR.out.2.1, HR.out.2.2⟩
set_option maxRecDepth 100000 in
set_option maxHeartbeats 4000000 in
theorem hFix_ok {W : World} {q base : Nat} {f : FuncId} {v : Value} {l : List Itm} {x : Itm} {key : Itm → Int} {ok : Itm → Prop} (h : Que W q base f v (l ++ [x])) (hL : LessF f key ok) (hf : ∀ a w, (callFunc f a).run Try.prog w = .ok (.enter f a) w) (hall : ∀ y ∈ l ++ [x], ok y) (hh : HeapFrom key l l.length 0) :
    Calls Try.prog 67 #[qI q, .int .i64 l.length] W fun e w' => e = .returned (.tuple #[]) ∧ ∃ (l' : List Itm), Que w' q base f v l' ∧ QStep W w' q v v ∧ l'.Perm (l ++ [x]) ∧ HeapFrom key l' l'.length 0 := by
  have hlen := h.len
  have hln : (l ++ [x]).length = l.length + 1 := by simp
  have hm1 := mLen q
  have HQ := Lib.hid h
  have HL := Lib.hid hL
  have HALL := Lib.hid hall
  have HF := Lib.hid hf
  have HU := Lib.hid (UpInv.start (key := key) (l := l ++ [x]) (n := l.length) (by simp) ((heap_append (Nat.le_refl _)).2 hh))
  have HD := Lib.hid (HeapFrom.none (key := key) (l := l ++ [x]) (n := l.length + 1) (s := l.length + 1) (by omega))
  have HLN := Lib.hid hln
  rw [hln] at hlen
  clear h hL hall hf hh
  go_enter Try.func67, Try.ntmps67
  go_wp2_with fail
  refine (qLen_ok HQ.out).mono ?_
  rintro e w1 ⟨rfl, rfl⟩
  rw [hln]
  clear hln
  go_wp2_with fail
  refine (hDown_at HQ.out HL.out HF.out HALL.out l.length (l.length + 1) (by omega) (by rw [HLN.out]; exact Nat.le_refl _) HD.out _ _ rfl (by omega)).mono ?_
  rintro e w2 ⟨b, l2, rfl, hq2, hs2, _, _, _, hb2⟩
  obtain ⟨rfl, rfl⟩ := hb2 (by omega)
  have HQ2 := Lib.hid hq2
  have HS2 := Lib.hid hs2
  clear hq2 hs2 hb2
  go_wp2_with fail
  refine (hUp_ok HQ2.out HL.out HF.out HALL.out l.length (l.length + 1) (by rw [HLN.out]; exact Nat.le_refl _) HU.out).mono ?_
  rintro e w3 ⟨rfl, l3, hq3, hs3, hp3, hh3⟩
  have HQ3 := Lib.hid hq3
  have HS3 := Lib.hid (HS2.out.trans hs3)
  have HP3 := Lib.hid hp3
  have HH3 := Lib.hid hh3
  clear hq3 hs3 hp3 hh3
  go_wp2
  go_end0
  exact ⟨rfl, l3, HQ3.out, HS3.out, HP3.out, by rw [HP3.out.length_eq, HLN.out]; exact HH3.out⟩
end Go.Proofs.Ytaakcpdpkcadjaa
