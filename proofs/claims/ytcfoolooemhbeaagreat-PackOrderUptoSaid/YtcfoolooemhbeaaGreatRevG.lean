/-
  slices.Reverse of records in memory of the call's own: the same memory, the records in the other order, at any element type. No condition.
-/
import Derived.Test.YtcfoolooemhbeaaGreatLayRev
import Derived.Shelf.SlicesQ.Reverse
import Derived.Shelf.SlicesE.Reverse
import Derived.Lib.OwnBridge
import Derived.Ground.SlgnProg
import Derived.Test.YtcfoolooemhbeaaGreatCore
namespace Go.Proofs.YtcfoolooemhbeaaGreat
open Go.RowKit Go.Shelf Go.Lib Go.Sort
theorem flatK_listR {α : Type} [Inhabited α] (enc : α → List Value) (sz : Nat) (hk : ∀ x, (enc x).length = sz) (l : List α) : flatK enc sz l.toArray = (l.flatMap enc).toArray := by
  have hlen := flat_len enc sz hk l
  refine ext_get! (by simp [hlen]) fun t ht => ?_
  have ht' : t < l.length * sz := by simpa using ht
  have hs0 : 0 < sz := by rcases Nat.eq_zero_or_pos sz with h | h; · subst h; simp at ht'
                          · exact h
  rw [get_flatK enc sz l.toArray t (by simpa using ht')]
  have hq : t / sz < l.length := (Nat.div_lt_iff_lt_mul hs0).2 ht'
  have hm : t % sz < sz := Nat.mod_lt _ hs0
  have h := flat_at enc sz hk l (t / sz) l[t / sz] (t % sz) (List.getElem?_eq_getElem hq) hm
  have e : t / sz * sz + t % sz = t := by rw [Nat.mul_comm]; exact Nat.div_add_mod t sz
  rw [e] at h
  have a1 : l.toArray[t / sz]! = l[t / sz] := by simp [hq]
  rw [a1]
  have b1 : t < (l.flatMap enc).length := by rw [hlen]; exact ht'
  have b2 : t % sz < (enc l[t / sz]).length := by rw [hk]; exact hm
  rw [List.getElem?_eq_getElem b1, List.getElem?_eq_getElem b2] at h
  injection h with h
  rw [getElem!_pos (enc l[t / sz]) _ b2, getElem!_pos (l.flatMap enc).toArray t (by simpa using b1), ← h]
  rfl
theorem rev_own {P : Program} {f : FuncId} {α : Type} [Inhabited α] {enc : α → List Value} {sz : Nat} (hk : ∀ x, (enc x).length = sz)
    (hrev : ∀ (blk off cap : Nat) (d : Array α) (w : World), HoldsK enc sz w blk off d → d.size ≤ 9223372036854775807 → Calls P f #[.slice (some ⟨blk, off, none⟩) d.size cap] w fun e w' => e = .returned (.tuple #[]) ∧ ∃ n, w' = putRowK enc sz (Sort.ahead w n) blk off d.reverse)
    (hemp : ∀ (a : Option Addr) (cap : Nat) (w : World), Calls P f #[.slice a 0 cap] w fun e w' => e = .returned (.tuple #[]) ∧ w' = w)
    {w : World} {base : Nat} {e : TypeId} {v : Value} {l : List α} (h : w.ownsRow base e sz v l.length (l.flatMap enc)) (hl : l.length ≤ 4194304) :
    Calls P f #[v] w fun r w' => r = .returned (.tuple #[]) ∧ w'.ownsRow base e sz v l.length (l.reverse.flatMap enc) ∧ Off e w w' ∧ Below base w w' := by
  rcases h.2 with ⟨rfl, hn⟩ | ⟨g, cap, cur, rfl, hb, hh, hc1, hc2, hc3, hc4⟩
  · have hnil : l = [] := List.eq_nil_of_length_eq_zero hn
    subst hnil
    refine (hemp none 0 w).mono ?_
    rintro r w' ⟨rfl, rfl⟩
    exact ⟨rfl, by simpa using h, ⟨rfl, rfl, rfl, Nat.le_refl _, fun _ _ _ => rfl⟩, ⟨rfl, rfl, rfl, Nat.le_refl _, fun _ _ => rfl⟩⟩
  · have hlen := h.1
    have hF := flatK_listR enc sz hk l
    have hcur : ∀ j, j < l.length * sz → cur[j]? = (l.flatMap enc)[j]? := fun j hj => by
      rw [← hc4, List.getElem?_take_of_lt hj, Array.getElem?_toList]
    have hH : HoldsK enc sz w g 0 l.toArray := by
      unfold HoldsK
      rw [hF]
      intro j hj
      have hj' : j < (l.flatMap enc).length := by simpa using hj
      have hj2 : j < l.length * sz := by rw [← hlen]; exact hj'
      refine ⟨?_, ?_⟩
      · rw [Nat.zero_add, cell_of_row w g j cur e (0, 0) hh, hcur j hj2, List.getElem?_eq_getElem hj', getElem!_pos (l.flatMap enc).toArray j (by simpa using hj')]
        rfl
      · simp [World.frozen?, hh]
    have hz : l.toArray.size = l.length := by simp
    have := hrev g 0 cap l.toArray w hH (by simp; omega)
    rw [hz] at this
    refine this.mono ?_
    rintro r w' ⟨rfl, m, rfl⟩
    have hF2 : flatK enc sz l.toArray.reverse = (l.reverse.flatMap enc).toArray := by rw [List.reverse_toArray]; exact flatK_listR enc sz hk l.reverse
    have hlen2 : (l.reverse.flatMap enc).length = l.length * sz := by rw [flat_len enc sz hk, List.length_reverse]
    have hheap : ∀ k, (putRowK enc sz (Sort.ahead w m) g 0 l.toArray.reverse).heap[k]? = if k = g then some (.cells (putCells id 0 (l.reverse.flatMap enc).toArray cur) e (0, 0)) else w.heap[k]? := fun k => by
      unfold putRowK
      rw [hF2]
      unfold putRow mapBlock
      simp only [heap_ahead, Array.getElem?_modify]
      by_cases hkg : k = g
      · subst hkg
        simp [hh, onCells]
      · rw [if_neg hkg, if_neg (fun e => hkg e.symm)]
    have hsize : (putRowK enc sz (Sort.ahead w m) g 0 l.toArray.reverse).heap.size = w.heap.size := by unfold putRowK; simp
    refine ⟨rfl, ⟨hlen2, .inr ⟨g, cap, putCells id 0 (l.reverse.flatMap enc).toArray cur, rfl, hb, by rw [hheap, if_pos rfl], hc1, hc2, by simp [putCells, hc3], ?_⟩⟩, ⟨rfl, rfl, rfl, Nat.le_of_eq hsize.symm, fun k hk hno => ?_⟩, ⟨rfl, rfl, rfl, Nat.le_of_eq hsize.symm, fun k hk => ?_⟩⟩
    · refine List.ext_getElem? fun t => ?_
      by_cases ht : t < l.length * sz
      · have htc : t < cur.size := by rw [hc3]; exact Nat.lt_of_lt_of_le ht (Nat.mul_le_mul_right _ hc1)
        rw [List.getElem?_take_of_lt ht, Array.getElem?_toList]
        unfold putCells
        have ht2 : t < (l.reverse.flatMap enc).length := by rw [hlen2]; exact ht
        rw [Array.getElem?_mapIdx, Array.getElem?_eq_getElem htc, Option.map_some, if_pos ⟨Nat.zero_le _, by simp only [List.size_toArray, Nat.zero_add]; exact ht2⟩, Nat.sub_zero, getElem!_pos (l.reverse.flatMap enc).toArray t (by simpa using ht2), List.getElem?_eq_getElem ht2]
        rfl
      · rw [List.getElem?_eq_none (by rw [List.length_take]; omega), List.getElem?_eq_none (by omega)]
    · rw [hheap, if_neg]
      rintro rfl
      exact hno _ _ hh
    · rw [hheap, if_neg (by omega)]
instance revInhPar : Inhabited Par := ⟨⟨0, .empty, 0, 0⟩⟩
instance revInhPrt : Inhabited Prt := ⟨⟨0, 0, .empty, false, false, 0⟩⟩
instance revInhChn : Inhabited Chn := ⟨⟨0, 0, []⟩⟩
instance revInhReg : Inhabited Reg := ⟨⟨0, 0, 0, 0, false⟩⟩
theorem rev16_own {w : World} {base : Nat} {v : Value} {l : List Int} (h : w.ownsRow base 49 1 v l.length (l.map (Value.int .u16))) (hl : l.length ≤ 4194304) :
    Calls Tryz.prog 31 #[v] w fun r w' => r = .returned (.tuple #[]) ∧ w'.ownsRow base 49 1 v l.reverse.length (l.reverse.map (Value.int .u16)) ∧ w.grownBy w' v.ownBlock := by
  by_cases hv : v = .slice none 0 0
  · subst hv
    have hn : l = [] := by
      rcases h.2 with ⟨_, hn⟩ | ⟨g, _, _, e1, _⟩
      · exact List.eq_nil_of_length_eq_zero hn
      · cases e1
    subst hn
    refine (AnyE.slices_Reverse_empty Tryz.reverse16 none 0 w).mono ?_
    rintro r w' ⟨rfl, rfl⟩
    exact ⟨rfl, by simpa using h, World.grownBy.refl _ _⟩
  · obtain ⟨g, cap, rfl, hb, hlt, h1, h2, h3, hH⟩ := holds_of_ownsRow h hv
    refine (AnyE.slices_Reverse Tryz.reverse16 (Value.int .u16) (fun _ => rfl) g 0 cap l w hH (by omega)).mono ?_
    rintro r w' ⟨rfl, q, rfl⟩
    refine ⟨rfl, ?_, ⟨rfl, rfl, rfl, by simp [putRow, mapBlock, Sort.ahead], fun k hk hne => ?_⟩⟩
    · have := ownsRow_putRow (q := q) (k := l.length) (ys := l.reverse) h (by simp) (Nat.le_refl _)
      rw [List.take_of_length_le (by simp)] at this
      simpa using this
    · have : g ≠ k := fun e => hne (by rw [e]; rfl)
      simp [putRow, mapBlock, Sort.ahead, Array.getElem?_modify, this]
theorem revPrt_own {w : World} {base : Nat} {v : Value} {l : List Prt} (h : w.ownsRow base 85 6 v l.length (l.flatMap Prt.cells)) (hl : l.length ≤ 4194304) :
    Calls Tryz.prog 29 #[v] w fun r w' => r = .returned (.tuple #[]) ∧ w'.ownsRow base 85 6 v l.length (l.reverse.flatMap Prt.cells) ∧ Off 85 w w' ∧ Below base w w' := by
  have h1 : ∀ x, ∀ v ∈ Prt.cells x, v.oneCell' = true := fun x v hv => by simp [Prt.cells] at hv; rcases hv with rfl | rfl | rfl | rfl | rfl | rfl <;> rfl
  exact rev_own (enc := Prt.cells) (fun _ => rfl) (fun blk off cap d w => AnyQ.slices_Reverse Tryz.reversePrt 6 Tryz.isAgg85 Tryz.sizeOf85 Prt.cells (fun _ => rfl) h1 blk off cap d w) (fun a cap w => AnyQ.slices_Reverse_empty Tryz.reversePrt a cap w) h hl
theorem revReg_own {w : World} {base : Nat} {v : Value} {l : List Reg} (h : w.ownsRow base 81 5 v l.length (l.flatMap Reg.cells)) (hl : l.length ≤ 4194304) :
    Calls Tryz.prog 28 #[v] w fun r w' => r = .returned (.tuple #[]) ∧ w'.ownsRow base 81 5 v l.length (l.reverse.flatMap Reg.cells) ∧ Off 81 w w' ∧ Below base w w' := by
  have h1 : ∀ x, ∀ v ∈ Reg.cells x, v.oneCell' = true := fun x v hv => by simp [Reg.cells] at hv; rcases hv with rfl | rfl | rfl | rfl | rfl <;> rfl
  exact rev_own (enc := Reg.cells) (fun _ => rfl) (fun blk off cap d w => AnyQ.slices_Reverse Tryz.reverseReg 5 Tryz.isAgg81 Tryz.sizeOf81 Reg.cells (fun _ => rfl) h1 blk off cap d w) (fun a cap w => AnyQ.slices_Reverse_empty Tryz.reverseReg a cap w) h hl
end Go.Proofs.YtcfoolooemhbeaaGreat
