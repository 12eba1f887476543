/-
  Own work. slices.Insert at []type 3: the library's own text is walked, with one element put in ahead of the end: in its place, or in a new row. (Turned from the kit's walk at other types.)
-/
import Derived.Test.YtnlmnejellipdaaXInsW
import Derived.Test.YtnlmnejellipdaaRows
set_option linter.unusedVariables false
set_option linter.unusedSimpArgs false
namespace Go.Proofs.Ytnlmnejellipdaa
open Go Go.Proofs Go.Shelf Go.RowKit Go.Lib X
set_option maxHeartbeats 4000000 in
set_option maxRecDepth 100000 in
theorem insShift77 : InsShift Try.prog 77 1 := by
 intro b off n c i vb voff vc cs vs w hi hroom hc63 hvb hcl hvl hcs hsp hfz hvs hfv h1c h1v tA tB kA kB hsa hsb hkB
 simp only [Nat.mul_one] at *
 have t3 := Try.underlying3; have t4 := Try.underlying4; have tT := Try.underlying32; have tE := Try.underlying3
 have u3 := run_underlying t3; have u4 := run_underlying t4; have uT := run_underlying tT; have uE := run_underlying tE
 have z3 : ∀ w, (Go.sizeOf 3).run Try.prog w = .ok 1 w := fun _ => by kernel_rfl
 have z4 : ∀ w, (Go.sizeOf 4).run Try.prog w = .ok 1 w := fun _ => by kernel_rfl
 have zT : ∀ w, (Go.sizeOf 32).run Try.prog w = .ok 1 w := fun _ => by kernel_rfl
 have zE : ∀ w, (Go.sizeOf 3).run Try.prog w = .ok 1 w := fun _ => by kernel_rfl
 have a3 : ∀ w, (isAgg 3).run Try.prog w = .ok false w := fun _ => by kernel_rfl
 have a4 : ∀ w, (isAgg 4).run Try.prog w = .ok false w := fun _ => by kernel_rfl
 have aT : ∀ w, (isAgg 32).run Try.prog w = .ok false w := fun _ => by kernel_rfl
 have vT : ∀ w, (zeroValue 32).run Try.prog w = .ok (Value.slice none 0 0) w := fun _ => by kernel_rfl
 have mixed : Try.prog.follows .mixedOrders = true := by kernel_rfl
 have hz2 : ¬ ((i : Int) = (n : Int)) := by omega
 have hsz : (Try.prog.info? 3).map (·.size) = some 1 := by kernel_rfl
 have hw1 : IntKind.i64.wrap ((i : Int) + 1) = (i : Int) + 1 := by rw [IntKind.wrap_i64]; omega
 have hb1 : (0 : Int) ≤ (i : Int) + 1 := by omega
 have hin : i ≤ n := by omega
 have htn : ((i : Int) + 1).toNat = i + 1 := by omega
 have hb2 : ¬ (c = i + 1) := by omega
 have hb3 : (i : Int) ≤ (n : Int) + 1 := by omega
 have hb4 : ¬ (c = i) := by omega
 have hov : ∀ lb cb, (callFunc 89 #[.slice (some ⟨vb, voff, none⟩) 1 vc, .slice (some ⟨b, off + (i + 1), none⟩) lb cb]).run Try.prog w = .ok (.value (.bool false)) w := fun lb cb => by
  rw [run_callFunc_extern Try.func89 (by kernel_rfl) (by kernel_rfl) (by kernel_rfl) (e := Extern.SlicesOverlaps.overlaps #[32, 32] #[4]) (by kernel_rfl),
   Lib.run_overlaps_apart w 32 4 3 tT 1 zE ⟨vb, voff, none⟩ ⟨b, off + (i + 1), none⟩ 1 vc lb cb hvb tA tB kA kB hsa hsb hkB (hfv _) (hfv _)]
  rfl
 have hdl : (cs.drop (i)).length = (n - i) * 1 := by rw [List.length_drop, hcl]; omega
 have hcp1 : ∀ ty dc sc, (Builtin.copy_ #[32, 32] ty #[.slice (some ⟨b, off + (i + 1), none⟩) (n - i) dc, .slice (some ⟨b, off + i, none⟩) (n + 1 - i) sc]).run Try.prog w.drew = .ok (goInt (n - i : Nat)) (w.drew.setCells b (off + (i + 1)) (cs.drop (i))) := fun ty dc sc =>
  run_copy_n w.drew _ _ ty 3 b (off + (i + 1)) (n - i) dc ⟨b, off + i, none⟩ (n + 1 - i) sc 1 (n - i) (cs.drop (i)) tT hsz (by simp only [Nat.min_def]; split <;> omega) hdl
   (fun j v hj => by rw [Addr.add_lit, Nat.add_assoc]; exact hcs (i + j) v (by rwa [List.getElem?_drop] at hj))
   (fun j hj => by rw [Nat.add_assoc]; exact hsp _ (by omega)) (fun j hj => hfz _) (fun v hv => h1c v (List.mem_of_mem_drop hv))
 obtain ⟨W1, hW1⟩ : ∃ W1, W1 = w.drew.setCells b (off + (i + 1)) (cs.drop (i)) := ⟨_, rfl⟩
 have hsp1 : ∀ k, k < (n + 1) → (W1.cell? ⟨b, off + k, none⟩).isSome = true := fun k hk => by
  rw [hW1]
  exact isSome_setCells b _ _ _ (fun j hj => by rw [Nat.add_assoc]; exact hsp _ (by omega)) _ (hsp k hk)
 have hcp2 : ∀ (W : World), (∀ x, W.cell? x = W1.cell? x) → (∀ x, W.frozen? x = W1.frozen? x) → ∀ ty dc, (Builtin.copy_ #[32, 32] ty #[.slice (some ⟨b, off + i, none⟩) (n + 1 - i) dc, .slice (some ⟨vb, voff, none⟩) 1 vc]).run Try.prog W = .ok (goInt (1 : Nat)) (W.setCells b (off + i) vs) := fun W hWc hWf ty dc =>
  run_copy_n W _ _ ty 3 b (off + i) (n + 1 - i) dc ⟨vb, voff, none⟩ 1 vc 1 1 vs tT hsz (by simp only [Nat.min_def]; split <;> omega) (by omega)
   (fun j v hj => by
    rw [Addr.add_lit, hWc, hW1, World.cell?_setCells_out b _ _ _ _ (fun h _ => absurd h hvb)]
    exact hvs j v hj)
   (fun j hj => by rw [hWc, Nat.add_assoc]; exact hsp1 _ (by omega)) (fun j hj => by rw [hWf, hW1, World.frozen?_setCells]; exact hfz _) h1v
 rw [← hW1] at hcp1
 go_enter Try.func77, Try.ntmps77
 go_wp2_with (simp only [hov])
 go_region_law_o (refine step_copy_runI rfl _ _ 32 32 rfl _ _ (by simp [Act.eval, Act.put]) (by simp [Act.eval, Act.put]) (hcp1 _ _ _) ?_)
 go_wp2_with (at_builtin; refine wpList_copy_runI _ rfl _ _ 32 32 rfl _ _ rfl rfl (hcp2 _ (fun _ => rfl) (fun _ => rfl) _ _) ?_)
 go_ret
 first | exact ⟨rfl, rfl⟩ | exact ⟨rfl, by rw [hW1]⟩
set_option maxHeartbeats 4000000 in
set_option maxRecDepth 100000 in
theorem insGrow77 : InsGrow Try.prog 77 1 3 := by
 intro b off n c i vb voff vc cs vs w hi hnc hroom hbig hcl hvl hcs hvs h1c h1v
 simp only [Nat.mul_one] at *
 have t3 := Try.underlying3; have t4 := Try.underlying4; have tT := Try.underlying32; have tE := Try.underlying3
 have u3 := run_underlying t3; have u4 := run_underlying t4; have uT := run_underlying tT; have uE := run_underlying tE
 have z3 : ∀ w, (Go.sizeOf 3).run Try.prog w = .ok 1 w := fun _ => by kernel_rfl
 have z4 : ∀ w, (Go.sizeOf 4).run Try.prog w = .ok 1 w := fun _ => by kernel_rfl
 have zT : ∀ w, (Go.sizeOf 32).run Try.prog w = .ok 1 w := fun _ => by kernel_rfl
 have zE : ∀ w, (Go.sizeOf 3).run Try.prog w = .ok 1 w := fun _ => by kernel_rfl
 have a3 : ∀ w, (isAgg 3).run Try.prog w = .ok false w := fun _ => by kernel_rfl
 have a4 : ∀ w, (isAgg 4).run Try.prog w = .ok false w := fun _ => by kernel_rfl
 have aT : ∀ w, (isAgg 32).run Try.prog w = .ok false w := fun _ => by kernel_rfl
 have vT : ∀ w, (zeroValue 32).run Try.prog w = .ok (Value.slice none 0 0) w := fun _ => by kernel_rfl
 have mixed : Try.prog.follows .mixedOrders = true := by kernel_rfl
 have hall : (Try.prog.info? 3).map (fun i => (i.zero, i.size, i.bytes)) = some (some (Value.int .i64 0), 1, 8) := by kernel_rfl
 obtain ⟨i0, hi0, hz0, hzs, hzb⟩ := info_parts hall
 have hzc : ((Value.int .i64 0) : Value).cells.size = 1 := by kernel_rfl
 have hz2 : ¬ ((i : Int) = (n : Int)) := by omega
 have hz3 : (c : Int) < (n : Int) + 1 := by omega
 have hsz : (Try.prog.info? 3).map (·.size) = some 1 := by rw [hi0]; simp [hzs]
 have hbw : b < w.heap.size := block_lt_of_cell (hcs 0 _ (List.getElem?_eq_getElem (by omega)))
 have hvw : vb < w.heap.size := block_lt_of_cell (hvs 0 _ (List.getElem?_eq_getElem (by omega)))
 have hkk : (n : Int) + 1 - (i : Int) = ((n + 1 - i : Nat) : Int) := by omega
 have hik : i + (n + 1 - i) = n + 1 := by omega
 have htl : (cs.take (i)).length = i := by rw [List.length_take]; omega
 have hold : (Builtin.firstCells i0.size i (.slice (some ⟨b, off, none⟩) i c)).run Try.prog w.drew = .ok (cs.take (i)).toArray w.drew := by
  rw [hzs]
  exact run_firstCells_some w.drew 1 i ⟨b, off, none⟩ i c (cs.take (i)) (by rw [htl]; omega) (fun j v hj => by
   rw [Addr.add_lit]
   rw [List.getElem?_take] at hj
   split at hj
   ·exact hcs j v hj
   ·cases hj)
 have hrz : ∀ ty, (Builtin.append_ #[32, 3] ty #[.slice (some ⟨b, off, none⟩) i c, .int .i64 ((n : Int) + 1 - (i : Int))]).run Try.prog w =
   .ok (.slice (some ⟨w.heap.size, 0, none⟩) (n + 1) (grownCap w (n + 1) c 3)) (w.drew.alloc (.cells ((cs.take (i)).toArray ++ Builtin.zeroCells ((Value.int .i64 0) : Value).cells (n + 1 - i) ++ Builtin.zeroCells ((Value.int .i64 0) : Value).cells (grownCap w (n + 1) c 3 - (n + 1))) 3)) := fun ty => by
  have h := Lib.run_append_grow_zeros w 32 3 ty 3 i0 _ .i64 .i64 tT t3 hi0 hz0 (some ⟨b, off, none⟩) i c (cs.take (i)) hold (n + 1 - i) (by omega) (by omega) (by omega) (by omega) (by rw [hzb]; omega) (by rw [hzb, hik]; exact growslice_fits hroom (by omega))
  rw [hik] at h
  rw [hkk]
  exact h
 obtain ⟨G, hG⟩ : ∃ G, G = grownCap w (n + 1) c 3 := ⟨_, rfl⟩
 have hGn : n + 1 ≤ G := by rw [hG]; exact grownCap_ge w _ _ _
 obtain ⟨ROW, hROW⟩ : ∃ ROW : Array Value, ROW = (cs.take (i)).toArray ++ Builtin.zeroCells ((Value.int .i64 0) : Value).cells (n + 1 - i) ++ Builtin.zeroCells ((Value.int .i64 0) : Value).cells (G - (n + 1)) := ⟨_, rfl⟩
 rw [← hG] at hrz ⊢
 rw [← hROW] at hrz
 have hRl : ROW.size = G := by
  rw [hROW]
  simp only [Array.size_append, Go.size_zeroCells, hzc, List.size_toArray, htl]
  omega
 have hRi : ∀ j, j < i → ROW[j]? = cs[j]? := fun j hj => by
  rw [hROW, Array.getElem?_append_left (by simp only [Array.size_append, List.size_toArray, htl]; omega), Array.getElem?_append_left (by simp only [List.size_toArray, htl]; omega)]
  simp [List.getElem?_take, hj]
 refine ⟨ROW, hRl, hRi, ?_⟩
 obtain ⟨W1, hW1⟩ : ∃ W1, W1 = w.drew.alloc (.cells ROW 3) := ⟨_, rfl⟩
 rw [← hW1] at hrz
 have hN : ∀ j, j < (n + 1) → (W1.cell? ⟨w.heap.size, j, none⟩).isSome = true := fun j hj => by
  rw [hW1, World.cell?_alloc_at (w := w.drew) ROW _ w.heap.size j rfl, Array.getElem?_eq_getElem (by omega)]; rfl
 have hNf : ∀ j, W1.frozen? ⟨w.heap.size, j, none⟩ = false := fun j => by rw [hW1]; exact World.frozen?_alloc_at (w := w.drew) ROW _ w.heap.size j rfl
 have hOb : ∀ j v, w.cell? ⟨b, j, none⟩ = some v → W1.cell? ⟨b, j, none⟩ = some v := fun j v h => by rw [hW1, World.cell?_alloc_past (w := w.drew) _ b j hbw]; exact h
 have hOv : ∀ j v, w.cell? ⟨vb, j, none⟩ = some v → W1.cell? ⟨vb, j, none⟩ = some v := fun j v h => by rw [hW1, World.cell?_alloc_past (w := w.drew) _ vb j hvw]; exact h
 have hcpA : ∀ (W : World), (∀ x, W.cell? x = W1.cell? x) → (∀ x, W.frozen? x = W1.frozen? x) → ∀ ty dc, (Builtin.copy_ #[32, 32] ty #[.slice (some ⟨w.heap.size, i, none⟩) (n + 1 - i) dc, .slice (some ⟨vb, voff, none⟩) 1 vc]).run Try.prog W = .ok (goInt (1 : Nat)) (W.setCells w.heap.size (i) vs) := fun W hWc hWf ty dc =>
  run_copy_n W _ _ ty 3 w.heap.size (i) (n + 1 - i) dc ⟨vb, voff, none⟩ 1 vc 1 1 vs tT hsz (by simp only [Nat.min_def]; split <;> omega) (by omega)
   (fun j v hj => by rw [Addr.add_lit, hWc]; exact hOv _ v (hvs j v hj))
   (fun j hj => by rw [hWc]; exact hN _ (by omega)) (fun j hj => by rw [hWf]; exact hNf _) h1v
 have hG63 : G ≤ 9223372036854775807 := by
  have := grownCap_le_maxLen w (n + 1) c 3 (by unfold maxLen; omega)
  rw [← hG] at this
  unfold maxLen at this
  omega
 have hGi : ¬ (G = i) := by omega
 have hGim : ¬ (G = i + 1) := by omega
 have hci : ¬ (c = i) := by omega
 have hbN : b ≠ w.heap.size := by omega
 have hdl : (cs.drop (i)).length = (n - i) * 1 := by rw [List.length_drop, hcl]; omega
 have hcpB : ∀ (W : World), (∀ x, W.cell? x = (W1.setCells w.heap.size (i) vs).cell? x) → (∀ x, W.frozen? x = (W1.setCells w.heap.size (i) vs).frozen? x) → ∀ ty dc sc, (Builtin.copy_ #[32, 32] ty #[.slice (some ⟨w.heap.size, (i + 1), none⟩) (n - i) dc, .slice (some ⟨b, off + i, none⟩) (n - i) sc]).run Try.prog W = .ok (goInt (n - i : Nat)) (W.setCells w.heap.size ((i + 1)) (cs.drop (i))) := fun W hWc hWf ty dc sc =>
  run_copy_n W _ _ ty 3 w.heap.size ((i + 1)) (n - i) dc ⟨b, off + i, none⟩ (n - i) sc 1 (n - i) (cs.drop (i)) tT hsz (by simp only [Nat.min_def]; split <;> omega) hdl
   (fun j v hj => by
    rw [Addr.add_lit, hWc, World.cell?_setCells_out _ _ _ _ _ (fun h _ => absurd h hbN), Nat.add_assoc]
    exact hOb _ v (hcs (i + j) v (by rwa [List.getElem?_drop] at hj)))
   (fun j hj => by rw [hWc]; exact isSome_setCells _ _ _ _ (fun t ht => hN _ (by omega)) _ (hN _ (by omega)))
   (fun j hj => by rw [hWf, World.frozen?_setCells]; exact hNf _) (fun v hv => h1c v (List.mem_of_mem_drop hv))
 subst hW1
 have hE1 : ∀ x, ((w.alloc (.cells ROW 3)).drew).cell? x = (w.drew.alloc (.cells ROW 3)).cell? x := fun x => rfl
 have hE2 : ∀ x, ((w.alloc (.cells ROW 3)).drew).frozen? x = (w.drew.alloc (.cells ROW 3)).frozen? x := fun x => rfl
 have hF1 : ∀ x, (((w.alloc (.cells ROW 3)).drew.setCells w.heap.size (i) vs).drew).cell? x = ((w.drew.alloc (.cells ROW 3)).setCells w.heap.size (i) vs).cell? x := fun x => rfl
 have hF2 : ∀ x, (((w.alloc (.cells ROW 3)).drew.setCells w.heap.size (i) vs).drew).frozen? x = ((w.drew.alloc (.cells ROW 3)).setCells w.heap.size (i) vs).frozen? x := fun x => rfl
 have hw1 : IntKind.i64.wrap ((i : Int) + 1) = (i : Int) + 1 := by rw [IntKind.wrap_i64]; omega
 have hw2 : IntKind.i64.wrap ((n : Int) + 1) = (n : Int) + 1 := by rw [IntKind.wrap_i64]; omega
 have hb1 : (0 : Int) ≤ (i : Int) + 1 := by omega
 have hin : i ≤ n := by omega
 have htn : ((i : Int) + 1).toNat = i + 1 := by omega
 have hb3 : (i : Int) ≤ (n : Int) := by omega
 clear hkk hik hold hROW hG hRl hRi
 go_enter Try.func77, Try.ntmps77
 go_wp2_with (first
  | (at_builtin; refine Lib.wpList_append_run _ rfl _ _ _ _ rfl _ _ rfl rfl _ _ (hrz _) ?_)
  | (at_builtin; refine wpList_copy_runI _ rfl _ _ 32 32 rfl _ _ rfl rfl (hcpA _ hE1 hE2 _ _) ?_)
  | (at_builtin; refine wpList_copy_runI _ rfl _ _ 32 32 rfl _ _ rfl rfl (hcpB _ (fun _ => rfl) (fun _ => rfl) _ _ _) ?_))
 go_region_law_o (refine step_copy_runI rfl _ _ 32 32 rfl (.slice (some ⟨w.heap.size, (i + 1), none⟩) (n - i) (G - (i + 1))) (.slice (some ⟨b, off + i, none⟩) (n - i) (c - i)) (by simp [Act.eval, Act.put]) (by simp [Act.eval, Act.put]) (hcpB _ hF1 hF2 3 (G - (i + 1)) (c - i)) ?_)
 go_wp2
 go_ret
 first | exact ⟨rfl, rfl⟩ | exact ⟨rfl, by rw []⟩
theorem insOk77 : InsOk Try.prog 77 1 := ins_ok (ins_run (by omega) insShift77 insGrow77)
end Go.Proofs.Ytnlmnejellipdaa
