/-
  container/heap over a queue of package sweep, walked: down, up, Init, Pop, Fix. No condition but on sizes.
-/
import Derived.Test.YtaakcpdpkcadjaaQueP
import Derived.Deep.Cut
namespace Go.Proofs.Ytaakcpdpkcadjaa
open Go.RowKit Go.Shelf
@[reducible] def qI (q : Nat) : Value := .iface 123 (.pointer (some ⟨q, 0, none⟩))
theorem mLess (q : Nat) (w : World) : (method 276 123 (.pointer (some ⟨q, 0, none⟩)) "Less").run Try.prog w = .ok (108, .pointer (some ⟨q, 0, none⟩)) w := by kernel_rfl
theorem mSwap (q : Nat) (w : World) : (method 276 123 (.pointer (some ⟨q, 0, none⟩)) "Swap").run Try.prog w = .ok (110, .pointer (some ⟨q, 0, none⟩)) w := by kernel_rfl
theorem mLen (q : Nat) (w : World) : (method 276 123 (.pointer (some ⟨q, 0, none⟩)) "Len").run Try.prog w = .ok (65, .pointer (some ⟨q, 0, none⟩)) w := by kernel_rfl
theorem mPop (q : Nat) (w : World) : (method 276 123 (.pointer (some ⟨q, 0, none⟩)) "Pop").run Try.prog w = .ok (109, .pointer (some ⟨q, 0, none⟩)) w := by kernel_rfl
theorem qLess_at {W : World} {q base : Nat} {f : FuncId} {v : Value} {l : List Itm} {key : Itm → Int} {ok : Itm → Prop} (h : Que W q base f v l) (hL : LessF f key ok) (hf : ∀ a w, (callFunc f a).run Try.prog w = .ok (.enter f a) w) (hall : ∀ x ∈ l, ok x) (i j : Nat) (hi : i < l.length) (hj : j < l.length) (a b : Int) (ha : a = (i : Int)) (hb : b = (j : Int)) (c : Bool) (hc : c = decide (kv key l i < kv key l j)) :
    Calls Try.prog 108 #[.pointer (some ⟨q, 0, none⟩), .int .i64 a, .int .i64 b] W fun e w' => e = .returned (.bool c) ∧ Below W.heap.size W w' := by
  subst ha hb hc
  exact qLess_ok h hL hf hall i j hi hj
theorem qSwap_at {W : World} {q base : Nat} {f : FuncId} {v : Value} {l : List Itm} (h : Que W q base f v l) (i j : Nat) (hi : i < l.length) (hj : j < l.length) (a b : Int) (ha : a = (i : Int)) (hb : b = (j : Int)) :
    Calls Try.prog 110 #[.pointer (some ⟨q, 0, none⟩), .int .i64 a, .int .i64 b] W fun e w' => e = .returned (.tuple #[]) ∧ Que w' q base f v (swp l i j) ∧ W.grownBy w' v.ownBlock := by
  subst ha hb
  exact qSwap_any h i j hi hj
theorem all_perm {l l' : List Itm} {ok : Itm → Prop} (h : ∀ x ∈ l, ok x) (hp : l'.Perm l) : ∀ x ∈ l', ok x := fun x hx => h x (hp.mem_iff.1 hx)
theorem dn_leaf {key : Itm → Int} {l0 l : List Itm} {n i0 i : Nat} (h : DnInv key l0 l n i0 i) (hn : n ≤ 2 * i + 1) : HeapFrom key l n i0 := h.done fun j h0 h1 h2 => by omega
theorem dn_one {key : Itm → Int} {l0 l : List Itm} {n i0 i : Nat} (h : DnInv key l0 l n i0 i) (hn : n ≤ 2 * i + 2) (hc : ¬ kv key l (2 * i + 1) < kv key l i) : HeapFrom key l n i0 := h.done fun j h0 h1 h2 => by
  obtain rfl : j = 2 * i + 1 := by omega
  omega
theorem dn_two {key : Itm → Int} {l0 l : List Itm} {n i0 i j : Nat} (h : DnInv key l0 l n i0 i) (hj : ∀ k, k = 2 * i + 1 ∨ k = 2 * i + 2 → kv key l j ≤ kv key l k) (hc : ¬ kv key l j < kv key l i) : HeapFrom key l n i0 := h.done fun k h0 h1 h2 => by
  have := hj k (by omega)
  omega
set_option maxRecDepth 100000 in
set_option maxHeartbeats 8000000 in
theorem hDown_ok {W : World} {q base : Nat} {f : FuncId} {v : Value} {l : List Itm} {key : Itm → Int} {ok : Itm → Prop} (h : Que W q base f v l) (hL : LessF f key ok) (hf : ∀ a w, (callFunc f a).run Try.prog w = .ok (.enter f a) w) (hall : ∀ x ∈ l, ok x) (i0 n : Nat) (hi0 : i0 ≤ 4194304) (hn : n ≤ l.length) (hh : HeapFrom key l n (i0 + 1)) :
    Calls Try.prog 71 #[qI q, .int .i64 i0, .int .i64 n] W fun e w' => ∃ (b : Bool) (l' : List Itm), e = .returned (.bool b) ∧ Que w' q base f v l' ∧ QStep W w' q v v ∧ (l'.Perm l ∧ (∀ j, n ≤ j → l'[j]? = l[j]?) ∧ HeapFrom key l' n i0 ∧ (n ≤ 2 * i0 + 1 → b = false ∧ l' = l)) := by
  have hlen := h.len
  have hm1 := mLess q
  have hm2 := mSwap q
  have HS := Lib.hid (DnInv.start (key := key) hn hh)
  have HQ := Lib.hid h
  have HL := Lib.hid hL
  have HALL := Lib.hid hall
  have HF := Lib.hid hf
  clear h hL hall hh hf
  go_enter Try.func71, Try.ntmps71
  go_wp2
  go_loopw [7] (fun s wr => ∃ (i : Nat) (l' : List Itm), s = .int .i64 i ∧ Hid (DnInv key l l' n i0 i) ∧ Hid (Que wr q base f v l') ∧ Hid (QStep W wr q v v) ∧ i ≤ 4194304 ∧ Hid (n ≤ 2 * i0 + 1 → i = i0 ∧ l' = l)) (fun s _ => n - (intOf s).toNat)
  case atStart => exact ⟨i0, l, rfl, HS, HQ, Lib.hid (.of_below (Below.refl _ _)), hi0, Lib.hid (fun _ => ⟨rfl, rfl⟩)⟩
  case round =>
    obtain ⟨i, l', rfl, HD, HQ', HST, hi, HE⟩ := hrel
    have hll := HD.out.len
    have hpl := HD.out.perm
    have HALL' := Lib.hid (all_perm HALL.out hpl)
    have hge := HD.out.ge
    clear hpl
    by_cases h1 : 2 * i + 1 < n
    · have m1 : (2 * (i : Int) + 1) < (n : Int) := by omega
      by_cases h2 : 2 * i + 2 < n
      · have m2 : (2 * (i : Int) + 1 + 1) < (n : Int) := by omega
        have hc1 : ∃ c, c = decide (kv key l' (2 * i + 2) < kv key l' (2 * i + 1)) := ⟨_, rfl⟩
        obtain ⟨c1, hc1⟩ := hc1
        have HC1 := Lib.hid hc1
        rcases Bool.eq_false_or_eq_true c1 with rfl | rfl
        · have hcc := of_decide_eq_true hc1.symm
          have HM := Lib.hid (show ∀ k, 0 < k → k < n → (k - 1) / 2 = i → kv key l' (2 * i + 2) ≤ kv key l' k from fun k h0 h1 h2 => by
            rcases (show k = 2 * i + 1 ∨ k = 2 * i + 2 by omega) with rfl | rfl <;> omega)
          clear hc1 hcc
          go_wp2_with fail
          refine (qLess_at HQ'.out HL.out HF.out HALL'.out (2 * i + 2) (2 * i + 1) (by omega) (by omega) _ _ (by omega) (by omega) true HC1.out).mono ?_
          rintro e w1 ⟨rfl, hb1⟩
          have HQ1 := Lib.hid (HQ'.out.up hb1)
          have HST1 := Lib.hid (HST.out.trans (.of_below hb1))
          clear hb1
          go_wp2_with fail
          obtain ⟨c2, hc2⟩ : ∃ c, c = decide (kv key l' (2 * i + 2) < kv key l' i) := ⟨_, rfl⟩
          have HC2 := Lib.hid hc2
          rcases Bool.eq_false_or_eq_true c2 with rfl | rfl
          · have hlt := of_decide_eq_true hc2.symm
            have HD2 := Lib.hid (HD.out.step (j := 2 * i + 2) (by omega) (by omega) (by omega) hlt HM.out)
            clear hc2 hlt
            refine (qLess_at HQ1.out HL.out HF.out HALL'.out (2 * i + 2) i (by omega) (by omega) _ _ (by omega) (by omega) true HC2.out).mono ?_
            rintro e w2 ⟨rfl, hb2⟩
            have HQ2 := Lib.hid (HQ1.out.up hb2)
            have HST2 := Lib.hid (HST1.out.trans (.of_below hb2))
            clear hb2
            go_wp2_with fail
            refine (qSwap_at HQ2.out i (2 * i + 2) (by omega) (by omega) _ _ (by omega) (by omega)).mono ?_
            rintro e w3 ⟨rfl, hq3, hg3⟩
            have HQ3 := Lib.hid hq3
            have HST3 := Lib.hid (HST2.out.trans (.of_grown hg3))
            clear hq3 hg3
            go_wp2
            go_roundw
            case rel => exact ⟨2 * i + 2, _, by go_num, HD2, HQ3, HST3, by omega, Lib.hid (fun hh => by omega)⟩
            case measure => simp [intOf]; omega
          · have hnl := of_decide_eq_false hc2.symm
            have HH := Lib.hid (HD.out.done fun k h0 h1 h2 => by have := HM.out k h0 h1 h2; omega)
            clear hc2 hnl
            refine (qLess_at HQ1.out HL.out HF.out HALL'.out (2 * i + 2) i (by omega) (by omega) _ _ (by omega) (by omega) false HC2.out).mono ?_
            rintro e w2 ⟨rfl, hb2⟩
            have HQ2 := Lib.hid (HQ1.out.up hb2)
            have HST2 := Lib.hid (HST1.out.trans (.of_below hb2))
            clear hb2
            go_wp2
            go_ret
            exact ⟨_, l', rfl, HQ2.out, HST2.out, HD.out.perm, fun j hj => HD.out.tail j hj, HH.out, fun hh => by omega⟩
        · have hcc := of_decide_eq_false hc1.symm
          have HM := Lib.hid (show ∀ k, 0 < k → k < n → (k - 1) / 2 = i → kv key l' (2 * i + 1) ≤ kv key l' k from fun k h0 h1 h2 => by
            rcases (show k = 2 * i + 1 ∨ k = 2 * i + 2 by omega) with rfl | rfl <;> omega)
          clear hc1 hcc
          go_wp2_with fail
          refine (qLess_at HQ'.out HL.out HF.out HALL'.out (2 * i + 2) (2 * i + 1) (by omega) (by omega) _ _ (by omega) (by omega) false HC1.out).mono ?_
          rintro e w1 ⟨rfl, hb1⟩
          have HQ1 := Lib.hid (HQ'.out.up hb1)
          have HST1 := Lib.hid (HST.out.trans (.of_below hb1))
          clear hb1
          go_wp2_with fail
          obtain ⟨c2, hc2⟩ : ∃ c, c = decide (kv key l' (2 * i + 1) < kv key l' i) := ⟨_, rfl⟩
          have HC2 := Lib.hid hc2
          rcases Bool.eq_false_or_eq_true c2 with rfl | rfl
          · have hlt := of_decide_eq_true hc2.symm
            have HD2 := Lib.hid (HD.out.step (j := 2 * i + 1) (by omega) (by omega) (by omega) hlt HM.out)
            clear hc2 hlt
            refine (qLess_at HQ1.out HL.out HF.out HALL'.out (2 * i + 1) i (by omega) (by omega) _ _ (by omega) (by omega) true HC2.out).mono ?_
            rintro e w2 ⟨rfl, hb2⟩
            have HQ2 := Lib.hid (HQ1.out.up hb2)
            have HST2 := Lib.hid (HST1.out.trans (.of_below hb2))
            clear hb2
            go_wp2_with fail
            refine (qSwap_at HQ2.out i (2 * i + 1) (by omega) (by omega) _ _ (by omega) (by omega)).mono ?_
            rintro e w3 ⟨rfl, hq3, hg3⟩
            have HQ3 := Lib.hid hq3
            have HST3 := Lib.hid (HST2.out.trans (.of_grown hg3))
            clear hq3 hg3
            go_wp2
            go_roundw
            case rel => exact ⟨2 * i + 1, _, by go_num, HD2, HQ3, HST3, by omega, Lib.hid (fun hh => by omega)⟩
            case measure => simp [intOf]; omega
          · have hnl := of_decide_eq_false hc2.symm
            have HH := Lib.hid (HD.out.done fun k h0 h1 h2 => by have := HM.out k h0 h1 h2; omega)
            clear hc2 hnl
            refine (qLess_at HQ1.out HL.out HF.out HALL'.out (2 * i + 1) i (by omega) (by omega) _ _ (by omega) (by omega) false HC2.out).mono ?_
            rintro e w2 ⟨rfl, hb2⟩
            have HQ2 := Lib.hid (HQ1.out.up hb2)
            have HST2 := Lib.hid (HST1.out.trans (.of_below hb2))
            clear hb2
            go_wp2
            go_ret
            exact ⟨_, l', rfl, HQ2.out, HST2.out, HD.out.perm, fun j hj => HD.out.tail j hj, HH.out, fun hh => by omega⟩
      · have m2 : ¬ (2 * (i : Int) + 1 + 1) < (n : Int) := by omega
        have m3 : (n : Int) ≤ 2 * (i : Int) + 1 + 1 := by omega
        have HM := Lib.hid (show ∀ k, 0 < k → k < n → (k - 1) / 2 = i → kv key l' (2 * i + 1) ≤ kv key l' k from fun k h0 h1 h2 => by
          obtain rfl : k = 2 * i + 1 := by omega
          exact Int.le_refl _)
        clear m2
        go_wp2_with fail
        obtain ⟨c2, hc2⟩ : ∃ c, c = decide (kv key l' (2 * i + 1) < kv key l' i) := ⟨_, rfl⟩
        have HC2 := Lib.hid hc2
        rcases Bool.eq_false_or_eq_true c2 with rfl | rfl
        · have hlt := of_decide_eq_true hc2.symm
          have HD2 := Lib.hid (HD.out.step (j := 2 * i + 1) (by omega) (by omega) (by omega) hlt HM.out)
          clear hc2 hlt
          refine (qLess_at HQ'.out HL.out HF.out HALL'.out (2 * i + 1) i (by omega) (by omega) _ _ (by omega) (by omega) true HC2.out).mono ?_
          rintro e w2 ⟨rfl, hb2⟩
          have HQ2 := Lib.hid (HQ'.out.up hb2)
          have HST2 := Lib.hid (HST.out.trans (.of_below hb2))
          clear hb2
          go_wp2_with fail
          refine (qSwap_at HQ2.out i (2 * i + 1) (by omega) (by omega) _ _ (by omega) (by omega)).mono ?_
          rintro e w3 ⟨rfl, hq3, hg3⟩
          have HQ3 := Lib.hid hq3
          have HST3 := Lib.hid (HST2.out.trans (.of_grown hg3))
          clear hq3 hg3
          go_wp2
          go_roundw
          case rel => exact ⟨2 * i + 1, _, by go_num, HD2, HQ3, HST3, by omega, Lib.hid (fun hh => by omega)⟩
          case measure => simp [intOf]; omega
        · have hnl := of_decide_eq_false hc2.symm
          have HH := Lib.hid (HD.out.done fun k h0 h1 h2 => by have := HM.out k h0 h1 h2; omega)
          clear hc2 hnl
          refine (qLess_at HQ'.out HL.out HF.out HALL'.out (2 * i + 1) i (by omega) (by omega) _ _ (by omega) (by omega) false HC2.out).mono ?_
          rintro e w2 ⟨rfl, hb2⟩
          have HQ2 := Lib.hid (HQ'.out.up hb2)
          have HST2 := Lib.hid (HST.out.trans (.of_below hb2))
          clear hb2
          go_wp2
          go_ret
          exact ⟨_, l', rfl, HQ2.out, HST2.out, HD.out.perm, fun j hj => HD.out.tail j hj, HH.out, fun hh => by omega⟩
    · have m1 : (n : Int) ≤ 2 * (i : Int) + 1 := by omega
      have HH := Lib.hid (dn_leaf HD.out (by omega))
      go_wp2
      go_ret
      exact ⟨_, l', rfl, HQ'.out, HST.out, HD.out.perm, fun j hj => HD.out.tail j hj, HH.out, fun hh => by obtain ⟨rfl, rfl⟩ := HE.out hh; exact ⟨decide_eq_false (by omega), rfl⟩⟩
end Go.Proofs.Ytaakcpdpkcadjaa
