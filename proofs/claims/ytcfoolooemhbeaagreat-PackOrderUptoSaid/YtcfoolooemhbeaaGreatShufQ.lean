/-
  The same configuration but for the order of records and of destinations: plain. It speaks of no program.
-/
import Derived.Test.YtcfoolooemhbeaaGreatNrmP
namespace Go.Proofs.YtcfoolooemhbeaaGreat
open Go.RowKit
/-- the same configuration but for the order of records and of destinations -/
structure Shuf (x c : Cfg) : Prop where
  frame : x.frame = c.frame
  parts : x.parts.Perm c.parts
  wins : x.wins.Perm c.wins
  regs : x.regs.Perm c.regs
  ports : x.ports.Perm c.ports
  chans : (x.chans.map sortD).Perm (c.chans.map sortD)
theorem Shuf.symm {x c : Cfg} (h : Shuf x c) : Shuf c x := ⟨h.frame.symm, h.parts.symm, h.wins.symm, h.regs.symm, h.ports.symm, h.chans.symm⟩
theorem sortD_mem {x : Chn} {d : Int} : d ∈ (sortD x).dests ↔ d ∈ x.dests := (List.mergeSort_perm _ _).mem_iff
theorem Shuf.ok {x c : Cfg} (h : Shuf x c) (hc : c.ok) : x.ok := by
  refine ⟨by rw [h.frame]; exact hc.frame, fun p hp => hc.parts p (h.parts.mem_iff.1 hp), fun p hp => hc.wins p (h.wins.mem_iff.1 hp), fun p hp => hc.regs p (h.regs.mem_iff.1 hp), fun p hp => hc.ports p (h.ports.mem_iff.1 hp), fun p hp => ?_⟩
  obtain ⟨y, hy, he⟩ := List.mem_map.1 (h.chans.mem_iff.1 (List.mem_map.2 ⟨p, hp, rfl⟩))
  have hok := hc.chans y hy
  have e1 : (sortD y).id = (sortD p).id := congrArg Chn.id he
  have e2 : (sortD y).source = (sortD p).source := congrArg Chn.source he
  exact ⟨(show y.id = p.id from e1) ▸ hok.id, (show y.source = p.source from e2) ▸ hok.source, fun d hd => hok.dests d (sortD_mem.1 (he ▸ sortD_mem.2 hd))⟩
theorem sumD_sort (l : List Chn) : sumDests (l.map sortD) = sumDests l := by
  unfold sumDests
  rw [List.map_map]
  congr 1
  apply List.map_congr_left
  intro x _
  exact (List.mergeSort_perm x.dests _).length_eq
theorem Shuf.sum {x c : Cfg} (h : Shuf x c) : sumDests x.chans = sumDests c.chans := by
  rw [← sumD_sort x.chans, ← sumD_sort c.chans]
  unfold sumDests
  exact (h.chans.map _).sum_nat
theorem Shuf.len {x c : Cfg} (h : Shuf x c) : x.chans.length = c.chans.length := by have := h.chans.length_eq; simpa using this
theorem Shuf.small {x c : Cfg} (h : Shuf x c) (hc : c.small) : x.small := by
  refine ⟨?_, fun p hp => hc.pnames p (h.parts.mem_iff.1 hp), fun p hp => hc.tnames p (h.ports.mem_iff.1 hp)⟩
  have := hc.total
  unfold Cfg.total at this ⊢
  rw [h.parts.length_eq, h.wins.length_eq, h.regs.length_eq, h.ports.length_eq, h.len, h.sum]
  exact this
/-- the normal form has the same records -/
theorem Shuf.of_norm (c : Cfg) : Shuf c.norm c := by
  refine ⟨rfl, normK_perm _ _, normK_perm _ _, normK_perm _ _, normK_perm _ _, ?_⟩
  have h1 : c.norm.chans.Perm (c.chans.map sortD) := normK_perm keyChn _
  have h2 := h1.map sortD
  rw [List.map_map] at h2
  have h3 : (c.chans.map (sortD ∘ sortD)) = c.chans.map sortD := by
    apply List.map_congr_left
    intro x _
    show sortD (sortD x) = sortD x
    unfold sortD
    congr 1
    exact List.mergeSort_of_pairwise (List.pairwise_mergeSort (fun a b c h1 h2 => by simp at *; omega) (fun a b => by simp; omega) x.dests)
  rw [h3] at h2
  exact h2
end Go.Proofs.YtcfoolooemhbeaaGreat
