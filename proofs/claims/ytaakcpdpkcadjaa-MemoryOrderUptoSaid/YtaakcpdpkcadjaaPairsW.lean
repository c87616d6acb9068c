/-
  What Pairs of package sweep returns, walked: the pairs of spans that overlap.
-/
import Derived.Test.YtaakcpdpkcadjaaPairsC
namespace Go.Proofs.Ytaakcpdpkcadjaa
open Go.RowKit Go.Shelf Go.Sort
theorem pairs_cb (w0 : World) (l : List Spn) (hlen : l.length ≤ 1048576) : Cb 55 #[.pointer (some ⟨w0.heap.size, 0, none⟩)] (w0.heap.size + 1) (itemsOf l) (PJ w0) where
  ent := enters_of Try.func55 (by kernel_rfl) rfl
  st d W V h ho := by
    obtain ⟨L, h1, h2, h3⟩ := h
    exact ⟨L, h1.st ho, h2, h3⟩
  call d op r x A c W hx hle hop hp hB hj hR := by
    obtain ⟨L, h1, h2, h3⟩ := hj
    have hd : d.length < l.length := by
      have := hp.length_eq
      rw [itemsOf_len] at this
      simp at this
      omega
    have hol : op.length ≤ d.length := hop.length_eq ▸ List.length_filter_le _ _
    have hne := idx_new hp
    refine (pairsFn_ok (op := op) (x := x) (L := L) (by omega) (by omega) h1 (fun y hy => hne y (List.mem_filter.1 (hop.mem_iff.1 hy)).1) hR).mono ?_
    rintro e w' ⟨he, hst, hk⟩
    exact ⟨he, ⟨_, hst, h2.next hx hle hop hne, by simp; omega⟩, hk⟩
theorem PairsOf.perm {d d' : List Itm} {L M : List Pr} (h : PairsOf d L) (hd : d.Perm d') (hL : M.Perm L) : PairsOf d' M := by
  intro p
  rw [hL.mem_iff, h p]
  constructor
  · rintro ⟨x, hx, y, hy, r⟩
    exact ⟨x, hd.mem_iff.1 hx, y, hd.mem_iff.1 hy, r⟩
  · rintro ⟨x, hx, y, hy, r⟩
    exact ⟨x, hd.mem_iff.2 hx, y, hd.mem_iff.2 hy, r⟩
theorem permIn_list {d d' : Array Pr} (h : PermIn 0 d.size d d') : d'.toList.Perm d.toList := by
  obtain ⟨h1, _, h3⟩ := h
  have e1 : d'.extract 0 d.size = d' := by rw [← h1]; exact Array.extract_size
  have e2 : d.extract 0 d.size = d := Array.extract_size
  rw [e1, e2] at h3
  exact h3
theorem sortPr_ok {L : List Pr} {A : Option Addr} {c base : Nat} {w : World} (hbase : base ≤ w.heap.size) (hL : L.length ≤ 1099511627776) (h : w.ownsRow base 106 2 (.slice A L.length c) L.length (L.flatMap Pr.cells)) :
    Calls Try.prog 56 #[.slice A L.length c, .func (.func 57) #[] #[]] w fun e w' => e = .returned (.tuple #[]) ∧ ∃ M : List Pr, M.Perm L ∧ w'.ownsRow base 106 2 (.slice A L.length c) M.length (M.flatMap Pr.cells) ∧ Below base w w' := by
  rcases h.2 with ⟨h2, h3⟩ | ⟨g, cap, cur, e1, hb, hh, _⟩
  · obtain rfl : L = [] := List.eq_nil_of_length_eq_zero h3
    refine (AnyF.slices_SortFunc_none Try.layPairs A c _ w).mono ?_
    rintro e w' ⟨rfl, rfl⟩
    exact ⟨rfl, [], List.Perm.refl _, h, Below.refl _ _⟩
  · injection e1 with e1 _ e2
    subst e1; subst e2
    have hlt : g < w.heap.size := (Array.getElem?_eq_some_iff.1 hh).1
    have eg : ∀ args w, (callFunc 57 args).run Try.prog w = .ok (.enter 57 args) w := enters_of Try.func57 (by kernel_rfl) rfl
    have hcon := AnyQ.slices_SortFunc Try.layPairs 2 (fun w => by kernel_rfl) (fun w => by kernel_rfl) Pr.cells (fun _ => rfl) (fun x v hv => by simp [Pr.cells] at hv; rcases hv with rfl | rfl <;> rfl) prCmp prSWO 57 #[] g 0 c L.toArray w eg (fun _ _ _ _ x y => prClosure_ok x y _) (holdsK_own (enc := Pr.cells) (k := 2) (fun _ => rfl) rfl h) hlt (by simp; omega)
    refine Calls.mono (show Calls Try.prog 56 #[.slice (some ⟨g, 0, none⟩) L.toArray.size c, .func (.func 57) #[] #[]] w _ from hcon) ?_
    rintro e w' ⟨rfl, d', n, os, hp, _, rfl⟩
    have hpl := permIn_list (d := L.toArray) (by exact hp)
    have hsz : d'.size = L.length := hp.1
    refine ⟨rfl, d'.toList, by simpa using hpl, ?_, belowK_sorted (Below.refl _ _) hbase hb⟩
    have := ownK_sorted (enc := Pr.cells) (k := 2) (m := n) (os := os) (fun _ => rfl) h hsz
    rw [show d'.toList.length = L.length by simpa using hsz]
    exact this
set_option maxRecDepth 100000 in
set_option maxHeartbeats 2000000 in
theorem pairs_ok {w : World} {l : List Spn} {A : Option Addr} {cp : Nat} (hlen : l.length ≤ 1048576) (hsp : ∀ s ∈ l, okSp s.lo s.len) (hR : Rd w w.heap.size 2 A l.length (l.flatMap Spn.cells)) :
    Calls Try.prog 47 #[.slice A l.length cp] w fun e w' => ∃ v L, e = .returned v ∧ (PairsOf (itemsOf l) L ∧ L.length ≤ 1099511627776) ∧ w'.ownsRow w.heap.size 106 2 v L.length (L.flatMap Pr.cells) ∧ Below w.heap.size w w' := by
  have HR := Lib.hid hR
  clear hR
  go_enter Try.func47, Try.ntmps47
  go_upto_region 2 with (fail)
  have hbn := below_one w (.cells #[.slice none 0 0] 104)
  have hst : PSt w (w.alloc (.cells #[.slice none 0 0] 104)) [] := ⟨hbn, _, Blk.new w _ _, World.ownsRow_nil _ _ _ _⟩
  have hsz : (w.alloc (.cells #[.slice none 0 0] 104)).heap.size = w.heap.size + 1 := by rw [World.size_alloc]
  generalize World.alloc w _ = W1 at hbn hst hsz ⊢
  have HJ := Lib.hid (show PJ w [] W1 from ⟨[], hst, fun p => by simp, by simp⟩)
  have HR1 := Lib.hid (HR.out.up hbn)
  have HCB := Lib.hid (show Cb 55 #[.pointer (some ⟨w.heap.size, 0, none⟩)] W1.heap.size (itemsOf l) (PJ w) by rw [hsz]; exact pairs_cb w l hlen)
  clear hbn hst hsz
  go_wp2_with fail
  refine (visit_ok hlen hsp HR1.out HCB.out HJ.out).mono ?_
  rintro e w2 ⟨rfl, d, hd, L, hP, hL, hLl⟩
  have hdl : d.length ≤ 1048576 := by rw [hd.length_eq, itemsOf_len]; exact hlen
  have hLm : L.length ≤ 1099511627776 := by omega
  have HP := Lib.hid hP
  have HL := Lib.hid hL
  have HD := Lib.hid hd
  obtain ⟨RA, rc, c0, cf, cz, ho⟩ := hP.cells
  have HO := Lib.hid ho
  clear hP hL hd hLl ho
  go_wp2_with fail
  refine (sortPr_ok (by omega) hLm HO.out).mono ?_
  rintro e w3 ⟨rfl, M, hM, hO3, hb3⟩
  have hML := hM.length_eq
  have c3 := (hb3.cell (p := ⟨w.heap.size, 0, none⟩) (Nat.lt_succ_self _)).trans c0
  have HO3 := Lib.hid hO3
  have HB3 := Lib.hid (HP.out.bel.trans (hb3.mono (Nat.le_succ _)))
  have HM := Lib.hid hM
  clear hb3 hM hO3 c0 cf
  go_wp2
  go_ret
  exact ⟨_, M, rfl, ⟨HL.out.perm HD.out HM.out, by omega⟩, own_lessM (by rw [hML] at *; exact HO3.out) (by omega), HB3.out⟩
end Go.Proofs.Ytaakcpdpkcadjaa
