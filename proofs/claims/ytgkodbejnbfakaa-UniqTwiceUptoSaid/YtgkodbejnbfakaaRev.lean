/-
  slices.Reverse of records in memory of the call's own: the same memory, the records in the other order. The first half speaks of no program; no condition.
-/
import Derived.Test.YtgkodbejnbfakaaLayRev
import Derived.Shelf.SlicesQ.Reverse
import Derived.Ground.SlgnProg
import Derived.Test.YtgkodbejnbfakaaMerge
namespace Go.Proofs.Ytgkodbejnbfakaa
open Go.RowKit Go.Shelf Go.Lib Go.Sort
theorem flatK_list {α : Type} [Inhabited α] (enc : α → List Value) (sz : Nat) (hk : ∀ x, (enc x).length = sz) (l : List α) : flatK enc sz l.toArray = (l.flatMap enc).toArray := by
  have hlen := flat_len enc sz hk l
  refine ext_get! (by simp [hlen]) fun t ht => ?_
  have ht' : t < l.length * sz := by simpa using ht
  have hs0 : 0 < sz := by rcases Nat.eq_zero_or_pos sz with h | h; · subst h; simp at ht'
                          · exact h
  rw [get_flatK enc sz l.toArray t (by simpa using ht')]
  have hq : t / sz < l.length := (Nat.div_lt_iff_lt_mul hs0).2 ht'
  have hm : t % sz < sz := Nat.mod_lt _ hs0
  have h := flat_at enc sz hk l (t / sz) l[t / sz] (t % sz) (List.getElem?_eq_getElem hq) hm
  have e : t / sz * sz + t % sz = t := by rw [Nat.mul_comm]; exact Nat.div_add_mod t sz
  rw [e] at h
  have a1 : l.toArray[t / sz]! = l[t / sz] := by simp [hq]
  rw [a1]
  have b1 : t < (l.flatMap enc).length := by rw [hlen]; exact ht'
  have b2 : t % sz < (enc l[t / sz]).length := by rw [hk]; exact hm
  rw [List.getElem?_eq_getElem b1, List.getElem?_eq_getElem b2] at h
  injection h with h
  rw [getElem!_pos (enc l[t / sz]) _ b2, getElem!_pos (l.flatMap enc).toArray t (by simpa using b1), ← h]
  rfl
theorem rev_own {P : Program} {f : FuncId} {α : Type} [Inhabited α] {enc : α → List Value} {sz : Nat} (hk : ∀ x, (enc x).length = sz)
    (hrev : ∀ (blk off cap : Nat) (d : Array α) (w : World), HoldsK enc sz w blk off d → d.size ≤ 9223372036854775807 → Calls P f #[.slice (some ⟨blk, off, none⟩) d.size cap] w fun e w' => e = .returned (.tuple #[]) ∧ ∃ n, w' = putRowK enc sz (Sort.ahead w n) blk off d.reverse)
    (hemp : ∀ (a : Option Addr) (cap : Nat) (w : World), Calls P f #[.slice a 0 cap] w fun e w' => e = .returned (.tuple #[]) ∧ w' = w)
    {w : World} {base : Nat} {e : TypeId} {v : Value} {l : List α} (h : w.ownsRow base e sz v l.length (l.flatMap enc)) (hl : l.length ≤ 4194304) :
    Calls P f #[v] w fun r w' => r = .returned (.tuple #[]) ∧ w'.ownsRow base e sz v l.length (l.reverse.flatMap enc) ∧ Off e w w' ∧ Below base w w' := by
  rcases h.2 with ⟨rfl, hn⟩ | ⟨g, cap, cur, rfl, hb, hh, hc1, hc2, hc3, hc4⟩
  · have hnil : l = [] := List.eq_nil_of_length_eq_zero hn
    subst hnil
    refine (hemp none 0 w).mono ?_
    rintro r w' ⟨rfl, rfl⟩
    exact ⟨rfl, by simpa using h, ⟨rfl, rfl, rfl, Nat.le_refl _, fun _ _ _ => rfl⟩, ⟨rfl, rfl, rfl, Nat.le_refl _, fun _ _ => rfl⟩⟩
  · have hlen := h.1
    have hF := flatK_list enc sz hk l
    have hcur : ∀ j, j < l.length * sz → cur[j]? = (l.flatMap enc)[j]? := fun j hj => by
      rw [← hc4, List.getElem?_take_of_lt hj, Array.getElem?_toList]
    have hH : HoldsK enc sz w g 0 l.toArray := by
      unfold HoldsK
      rw [hF]
      intro j hj
      have hj' : j < (l.flatMap enc).length := by simpa using hj
      have hj2 : j < l.length * sz := by rw [← hlen]; exact hj'
      refine ⟨?_, ?_⟩
      · rw [Nat.zero_add, cell_of_row w g j cur e (0, 0) hh, hcur j hj2, List.getElem?_eq_getElem hj', getElem!_pos (l.flatMap enc).toArray j (by simpa using hj')]
        rfl
      · simp [World.frozen?, hh]
    have hz : l.toArray.size = l.length := by simp
    have := hrev g 0 cap l.toArray w hH (by simp; omega)
    rw [hz] at this
    refine this.mono ?_
    rintro r w' ⟨rfl, m, rfl⟩
    have hF2 : flatK enc sz l.toArray.reverse = (l.reverse.flatMap enc).toArray := by rw [List.reverse_toArray]; exact flatK_list enc sz hk l.reverse
    have hlen2 : (l.reverse.flatMap enc).length = l.length * sz := by rw [flat_len enc sz hk, List.length_reverse]
    have hheap : ∀ k, (putRowK enc sz (Sort.ahead w m) g 0 l.toArray.reverse).heap[k]? = if k = g then some (.cells (putCells id 0 (l.reverse.flatMap enc).toArray cur) e (0, 0)) else w.heap[k]? := fun k => by
      unfold putRowK
      rw [hF2]
      unfold putRow mapBlock
      simp only [heap_ahead, Array.getElem?_modify]
      by_cases hkg : k = g
      · subst hkg
        simp [hh, onCells]
      · rw [if_neg hkg, if_neg (fun e => hkg e.symm)]
    have hsize : (putRowK enc sz (Sort.ahead w m) g 0 l.toArray.reverse).heap.size = w.heap.size := by unfold putRowK; simp
    refine ⟨rfl, ⟨hlen2, .inr ⟨g, cap, putCells id 0 (l.reverse.flatMap enc).toArray cur, rfl, hb, by rw [hheap, if_pos rfl], hc1, hc2, by simp [putCells, hc3], ?_⟩⟩, ⟨rfl, rfl, rfl, Nat.le_of_eq hsize.symm, fun k hk hno => ?_⟩, ⟨rfl, rfl, rfl, Nat.le_of_eq hsize.symm, fun k hk => ?_⟩⟩
    · refine List.ext_getElem? fun t => ?_
      by_cases ht : t < l.length * sz
      · have htc : t < cur.size := by rw [hc3]; exact Nat.lt_of_lt_of_le ht (Nat.mul_le_mul_right _ hc1)
        rw [List.getElem?_take_of_lt ht, Array.getElem?_toList]
        unfold putCells
        have ht2 : t < (l.reverse.flatMap enc).length := by rw [hlen2]; exact ht
        rw [Array.getElem?_mapIdx, Array.getElem?_eq_getElem htc, Option.map_some, if_pos ⟨Nat.zero_le _, by simp only [List.size_toArray, Nat.zero_add]; exact ht2⟩, Nat.sub_zero, getElem!_pos (l.reverse.flatMap enc).toArray t (by simpa using ht2), List.getElem?_eq_getElem ht2]
        rfl
      · rw [List.getElem?_eq_none (by rw [List.length_take]; omega), List.getElem?_eq_none (by omega)]
    · rw [hheap, if_neg]
      rintro rfl
      exact hno _ _ hh
    · rw [hheap, if_neg (by omega)]
instance : Inhabited Par := ⟨⟨0, .empty, 0, 0⟩⟩
instance : Inhabited Prt := ⟨⟨0, 0, .empty, false, false, 0⟩⟩
instance : Inhabited Chn := ⟨⟨0, 0, []⟩⟩
/-- a channel and where its destinations lie -/
def encC (t : Chn × Option Addr × Nat) : List Value := [.int .u16 t.1.id, .int .u16 t.1.source, .slice t.2.1 t.1.dests.length t.2.2]
def DestOwn (w : World) (t : Chn × Option Addr × Nat) : Prop := w.ownsRow 0 30 1 (.slice t.2.1 t.1.dests.length t.2.2) t.1.dests.length (t.1.dests.map (Value.int .u16))
theorem rows_pick {w : World} : ∀ {l : List Chn} {rs : List Value}, RowsOf (ChnT w) l rs → ∃ L : List (Chn × Option Addr × Nat), L.map (·.1) = l ∧ rs = L.flatMap encC ∧ ∀ t ∈ L, DestOwn w t
  | [], rs, h => ⟨[], rfl, h, by simp⟩
  | x :: r, rs, ⟨c0, c1, e, ⟨v, e0, ho⟩, h2⟩ => by
    obtain ⟨L, h3, h4, h5⟩ := rows_pick h2
    obtain ⟨A, c, rfl, _⟩ := own_form ho
    refine ⟨(x, A, c) :: L, by simp [h3], by subst e e0 h4; rfl, ?_⟩
    intro t ht
    rcases List.mem_cons.1 ht with rfl | ht
    · exact ho
    · exact h5 t ht
theorem rows_lay {w : World} : ∀ {L : List (Chn × Option Addr × Nat)}, (∀ t ∈ L, DestOwn w t) → RowsOf (ChnT w) (L.map (·.1)) (L.flatMap encC)
  | [], _ => rfl
  | t :: L, h => ⟨encC t, _, rfl, ⟨_, rfl, h t (by simp)⟩, rows_lay fun u hu => h u (by simp [hu])⟩
section
variable {w : World} {B : Nat} {c : Cfg} {A1 A2 A3 A4 A5 : Option Addr} {c1 c2 c3 c4 c5 : Nat}
theorem OwnCfg.off_parts {w' : World} (h : OwnCfg w B c A1 A2 A3 A4 A5 c1 c2 c3 c4 c5) (ho : Off 57 w w') {l : List Par} (hl : l.length = c.parts.length) (hr : w'.ownsRow B 57 4 (.slice A1 c.parts.length c1) c.parts.length (l.flatMap Par.cells)) :
    OwnCfg w' B { c with parts := l } A1 A2 A3 A4 A5 c1 c2 c3 c4 c5 := by
  obtain ⟨rs, o5, ch⟩ := h.o5
  exact ⟨by show w'.ownsRow B _ 4 (.slice A1 l.length c1) l.length _; rw [hl]; exact hr, own_off h.o2 ho (by decide), own_off h.o3 ho (by decide), own_off h.o4 ho (by decide), rs, own_off o5 ho (by decide), rows_map (fun x c hx => hx.off ho (by decide)) ch⟩
theorem OwnCfg.off_ports {w' : World} (h : OwnCfg w B c A1 A2 A3 A4 A5 c1 c2 c3 c4 c5) (ho : Off 37 w w') {l : List Prt} (hl : l.length = c.ports.length) (hr : w'.ownsRow B 37 6 (.slice A4 c.ports.length c4) c.ports.length (l.flatMap Prt.cells)) :
    OwnCfg w' B { c with ports := l } A1 A2 A3 A4 A5 c1 c2 c3 c4 c5 := by
  obtain ⟨rs, o5, ch⟩ := h.o5
  exact ⟨own_off h.o1 ho (by decide), own_off h.o2 ho (by decide), own_off h.o3 ho (by decide), by show w'.ownsRow B _ 6 (.slice A4 l.length c4) l.length _; rw [hl]; exact hr, rs, own_off o5 ho (by decide), rows_map (fun x c hx => hx.off ho (by decide)) ch⟩
end
theorem revParts_ok {w : World} {B : Nat} {c : Cfg} {A1 A2 A3 A4 A5 : Option Addr} {c1 c2 c3 c4 c5 : Nat} (h : OwnCfg w B c A1 A2 A3 A4 A5 c1 c2 c3 c4 c5) (ht : c.total ≤ 4194304) :
    Calls Try.prog 29 #[.slice A1 c.parts.length c1] w fun r w' => r = .returned (.tuple #[]) ∧ OwnCfg w' B { c with parts := c.parts.reverse } A1 A2 A3 A4 A5 c1 c2 c3 c4 c5 ∧ Off 57 w w' ∧ Below B w w' := by
  have h1 : ∀ x, ∀ v ∈ Par.cells x, v.oneCell' = true := fun x v hv => by simp [Par.cells] at hv; rcases hv with rfl | rfl | rfl | rfl <;> rfl
  refine (rev_own (enc := Par.cells) (fun _ => rfl) (fun blk off cap d w => AnyQ.slices_Reverse Try.reversePar 4 Try.isAgg57 Try.sizeOf57 Par.cells (fun _ => rfl) h1 blk off cap d w) (fun a cap w => AnyQ.slices_Reverse_empty Try.reversePar a cap w) h.o1 (by unfold Cfg.total at ht; omega)).mono ?_
  rintro r w' ⟨rfl, h2, h3, h4⟩
  exact ⟨rfl, h.off_parts h3 (by simp) h2, h3, h4⟩
theorem revPorts_ok {w : World} {B : Nat} {c : Cfg} {A1 A2 A3 A4 A5 : Option Addr} {c1 c2 c3 c4 c5 : Nat} (h : OwnCfg w B c A1 A2 A3 A4 A5 c1 c2 c3 c4 c5) (ht : c.total ≤ 4194304) :
    Calls Try.prog 30 #[.slice A4 c.ports.length c4] w fun r w' => r = .returned (.tuple #[]) ∧ OwnCfg w' B { c with ports := c.ports.reverse } A1 A2 A3 A4 A5 c1 c2 c3 c4 c5 ∧ Off 37 w w' ∧ Below B w w' := by
  have h1 : ∀ x, ∀ v ∈ Prt.cells x, v.oneCell' = true := fun x v hv => by simp [Prt.cells] at hv; rcases hv with rfl | rfl | rfl | rfl | rfl | rfl <;> rfl
  refine (rev_own (enc := Prt.cells) (fun _ => rfl) (fun blk off cap d w => AnyQ.slices_Reverse Try.reversePrt 6 Try.isAgg37 Try.sizeOf37 Prt.cells (fun _ => rfl) h1 blk off cap d w) (fun a cap w => AnyQ.slices_Reverse_empty Try.reversePrt a cap w) h.o4 (by unfold Cfg.total at ht; omega)).mono ?_
  rintro r w' ⟨rfl, h2, h3, h4⟩
  exact ⟨rfl, h.off_ports h3 (by simp) h2, h3, h4⟩
theorem revChans_ok {w : World} {B : Nat} {c : Cfg} {A1 A2 A3 A4 A5 : Option Addr} {c1 c2 c3 c4 c5 : Nat} (h : OwnCfg w B c A1 A2 A3 A4 A5 c1 c2 c3 c4 c5) (ht : c.total ≤ 4194304) :
    Calls Try.prog 31 #[.slice A5 c.chans.length c5] w fun r w' => r = .returned (.tuple #[]) ∧ OwnCfg w' B { c with chans := c.chans.reverse } A1 A2 A3 A4 A5 c1 c2 c3 c4 c5 ∧ Off 62 w w' ∧ Below B w w' := by
  have h1 : ∀ x, ∀ v ∈ encC x, v.oneCell' = true := fun x v hv => by simp [encC] at hv; rcases hv with rfl | rfl | rfl <;> rfl
  obtain ⟨rs, o5, ch⟩ := h.o5
  obtain ⟨L, hL, rfl, hD⟩ := rows_pick ch
  have hn : c.chans.length = L.length := by rw [← hL]; simp
  have o5' := o5
  rw [hn] at o5' ⊢
  refine (rev_own (enc := encC) (fun _ => rfl) (fun blk off cap d w => AnyQ.slices_Reverse Try.reverseChn 3 Try.isAgg62 Try.sizeOf62 encC (fun _ => rfl) h1 blk off cap d w) (fun a cap w => AnyQ.slices_Reverse_empty Try.reverseChn a cap w) o5' (by unfold Cfg.total at ht; omega)).mono ?_
  rintro r w' ⟨rfl, h2, h3, h4⟩
  refine ⟨rfl, ⟨own_off h.o1 h3 (by decide), own_off h.o2 h3 (by decide), own_off h.o3 h3 (by decide), own_off h.o4 h3 (by decide), L.reverse.flatMap encC, ?_, ?_⟩, h3, h4⟩
  · show w'.ownsRow B _ 3 (.slice A5 c.chans.reverse.length c5) c.chans.reverse.length _
    rw [List.length_reverse, hn]
    exact h2
  · have := rows_lay (w := w') (L := L.reverse) (fun t ht => own_off (hD t (by simpa using ht)) h3 (by decide))
    rwa [List.map_reverse, hL] at this
end Go.Proofs.Ytgkodbejnbfakaa
