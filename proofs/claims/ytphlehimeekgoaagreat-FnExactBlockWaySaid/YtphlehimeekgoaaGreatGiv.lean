/- The contracts of the functions of the library, at this program. -/
import Derived.Test.YtphlehimeekgoaaGreatEv4
import Derived.Test.YtphlehimeekgoaaGreatProg
import Derived.Shelf.Slices.In.SortNone
import Derived.Shelf.Slices.Clone
import Derived.WalkKit
import Derived.Handy
import Derived.Shelf.RegionOpenPlain
import Derived.Deep.LoopGhost
import Derived.Lib.Walk
import Derived.Shelf.Spec.SlicesInsert
import Derived.Lib.AppendZerosOnto
import Derived.Laws.NewBlocks
import Derived.KernelRfl
set_option linter.unusedVariables false
set_option linter.unusedSimpArgs false
set_option autoImplicit false
noncomputable section
namespace Go.Ev.Giv
open Go.Proofs Go.Shelf Go.RowKit Go.Lib
theorem infoE : (Tryz.prog.info? 26).map (fun i => (i.zero, i.size, i.bytes)) = some (some (Value.slice none 0 0), 1, 24) := by kernel_rfl
theorem sizeE : ∀ w, (Go.sizeOf 26).run Tryz.prog w = .ok 1 w := fun w => by
  obtain ⟨i0, hi0, h0, h1, h2⟩ := info_parts infoE
  simp [Go.sizeOf, typeInfo, hi0, h1]
set_option maxHeartbeats 4000000 in
set_option maxRecDepth 100000 in
theorem ins_shift (b off n c i vb voff m vc : Nat) (cs vs : List Value) (w : World) (hi : i < n) (hm : 0 < m) (hroom : n + m ≤ c) (hc63 : n + m ≤ 9223372036854775807) (hvb : vb ≠ b)
    (hcl : cs.length = n) (hvl : vs.length = m)
    (hcs : ∀ j v, cs[j]? = some v → w.cell? ⟨b, off + j, none⟩ = some v) (hsp : ∀ j, j < n + m → (w.cell? ⟨b, off + j, none⟩).isSome = true) (hfz : ∀ j, j < n + m → w.frozen? ⟨b, off + j, none⟩ = false)
    (hvs : ∀ j v, vs[j]? = some v → w.cell? ⟨vb, voff + j, none⟩ = some v) (h1c : ∀ v ∈ cs, v.oneCell' = true) (h1v : ∀ v ∈ vs, v.oneCell' = true)
    (tA tB : TypeId) (kA kB : Nat) (hsa : w.shape? vb = some (tA, kA)) (hsb : w.shape? b = some (tB, kB)) (hkB : kB ≠ 0) (hfa : w.frozen? ⟨vb, voff, none⟩ = false) (hfe : w.frozen? ⟨vb, kA, none⟩ = false) :
    Calls Tryz.prog 186 #[.slice (some ⟨b, off, none⟩) n c, .int .i64 i, .slice (some ⟨vb, voff, none⟩) m vc] w fun e w' =>
      e = .returned (.slice (some ⟨b, off, none⟩) (n + m) c) ∧ w' = (w.drew.setCells b (off + (i + m)) (cs.drop i)).setCells b (off + i) vs := by
  have hz1 : ¬ ((m : Int) = 0) := by omega
  have hz2 : ¬ ((i : Int) = (n : Int)) := by omega
  have hsz : (Tryz.prog.info? 26).map (·.size) = some 1 := by
    obtain ⟨i0, hi0, h0, h1, h2⟩ := info_parts infoE
    rw [hi0]; simp [h1]
  have hov : ∀ lb cb, (callFunc 208 #[.slice (some ⟨vb, voff, none⟩) m vc, .slice (some ⟨b, off + (i + m), none⟩) lb cb]).run Tryz.prog w = .ok (.value (.bool false)) w := fun lb cb => by
    rw [run_callFunc_extern Tryz.func208 (by kernel_rfl) (by kernel_rfl) (by kernel_rfl) (e := Extern.SlicesOverlaps.overlaps #[31, 31] #[4]) (by kernel_rfl),
      Lib.run_overlaps_apart w 31 4 26 Tryz.underlying31 1 sizeE ⟨vb, voff, none⟩ ⟨b, off + (i + m), none⟩ m vc lb cb hvb tA tB kA kB hsa hsb hkB hfa hfe]
    rfl
  have hdl : (cs.drop i).length = n - i := by rw [List.length_drop, hcl]
  have mixed : Tryz.prog.follows .mixedOrders = true := by kernel_rfl
  have hw1 : IntKind.i64.wrap ((i : Int) + (m : Int)) = (i : Int) + (m : Int) := by rw [IntKind.wrap_i64]; omega
  have hb1 : (0 : Int) ≤ (i : Int) + (m : Int) := by omega
  have hin : i ≤ n := by omega
  have htn : ((i : Int) + (m : Int)).toNat = i + m := by omega
  have hb2 : ¬ (c = i + m) := by omega
  have hb3 : (i : Int) ≤ (n : Int) + (m : Int) := by omega
  have hb4 : ¬ (c = i) := by omega
  have hcp1 : ∀ ty dc sc, (Builtin.copy_ #[31, 31] ty #[.slice (some ⟨b, off + (i + m), none⟩) (n + m - (i + m)) dc, .slice (some ⟨b, off + i, none⟩) (n + m - i) sc]).run Tryz.prog w.drew = .ok (goInt (cs.drop i).length) (w.drew.setCells b (off + (i + m)) (cs.drop i)) := fun ty dc sc =>
    run_copy_cells w.drew _ _ ty 26 b (off + (i + m)) (n + m - (i + m)) dc ⟨b, off + i, none⟩ (n + m - i) sc (cs.drop i) Tryz.underlying31 hsz (by rw [hdl]; simp only [Nat.min_def]; split <;> omega)
      (fun j v hj => by rw [Addr.add_lit, Nat.add_assoc]; exact hcs (i + j) v (by rwa [List.getElem?_drop] at hj))
      (fun j hj => by rw [Nat.add_assoc]; exact hsp _ (by omega)) (fun j hj => by rw [Nat.add_assoc]; exact hfz _ (by omega)) (fun v hv => h1c v (List.mem_of_mem_drop hv))
  obtain ⟨W1, hW1⟩ : ∃ W1, W1 = w.drew.setCells b (off + (i + m)) (cs.drop i) := ⟨_, rfl⟩
  have hsp1 : ∀ k, k < n + m → (W1.cell? ⟨b, off + k, none⟩).isSome = true := fun k hk => by
    rw [hW1]
    exact isSome_setCells b _ _ _ (fun j hj => by rw [Nat.add_assoc]; exact hsp _ (by omega)) _ (hsp k hk)
  have hcp2 : ∀ (W : World), (∀ x, W.cell? x = W1.cell? x) → (∀ x, W.frozen? x = W1.frozen? x) → ∀ ty dc, (Builtin.copy_ #[31, 31] ty #[.slice (some ⟨b, off + i, none⟩) (n + m - i) dc, .slice (some ⟨vb, voff, none⟩) m vc]).run Tryz.prog W = .ok (goInt vs.length) (W.setCells b (off + i) vs) := fun W hWc hWf ty dc =>
    run_copy_cells W _ _ ty 26 b (off + i) (n + m - i) dc ⟨vb, voff, none⟩ m vc vs Tryz.underlying31 hsz (by rw [hvl]; simp only [Nat.min_def]; split <;> omega)
      (fun j v hj => by
        rw [Addr.add_lit, hWc, hW1, World.cell?_setCells_out b _ _ _ _ (fun h _ => absurd h hvb)]
        exact hvs j v hj)
      (fun j hj => by rw [hWc, Nat.add_assoc]; exact hsp1 _ (by omega)) (fun j hj => by rw [hWf, hW1, World.frozen?_setCells, Nat.add_assoc]; exact hfz _ (by omega)) h1v
  rw [← hW1] at hcp1
  go_enter Tryz.func186, Tryz.ntmps186
  go_wp2_with (simp only [hov])
  go_region_law_o (refine step_copy_runI rfl _ _ 31 31 rfl _ _ (by simp [Act.eval, Act.put]) (by simp [Act.eval, Act.put]) (hcp1 _ _ _) ?_)
  go_wp2_with (at_builtin; refine wpList_copy_runI _ rfl _ _ 31 31 rfl _ _ rfl rfl (hcp2 _ (fun _ => rfl) (fun _ => rfl) _ _) ?_)
  go_ret
  first | exact ⟨rfl, rfl⟩ | exact ⟨rfl, by rw [hW1]⟩

set_option maxHeartbeats 4000000 in
set_option maxRecDepth 100000 in
theorem ins_end_room (b off n c vb voff m vc : Nat) (vs : List Value) (w : World) (hm : 0 < m) (hroom : n + m ≤ c) (hc63 : n + m ≤ 9223372036854775807)
    (hvl : vs.length = m) (hsp : ∀ j, j < m → (w.cell? ⟨b, off + n + j, none⟩).isSome = true) (hfz : ∀ j, j < m → w.frozen? ⟨b, off + n + j, none⟩ = false)
    (hvs : ∀ j v, vs[j]? = some v → w.cell? ⟨vb, voff + j, none⟩ = some v) (h1v : ∀ v ∈ vs, v.oneCell' = true) :
    Calls Tryz.prog 186 #[.slice (some ⟨b, off, none⟩) n c, .int .i64 n, .slice (some ⟨vb, voff, none⟩) m vc] w fun e w' =>
      e = .returned (.slice (some ⟨b, off, none⟩) (n + m) c) ∧ w' = w.setCells b (off + n) vs := by
  have mixed : Tryz.prog.follows .mixedOrders = true := by kernel_rfl
  have hz1 : ¬ ((m : Int) = 0) := by omega
  have hsrc : Src Tryz.prog 1 31 (.slice (some ⟨vb, voff, none⟩) m vc) m vs w := Src.ofSlice w Tryz.underlying31 ⟨vb, voff, none⟩ m vc vs (by omega) (fun j u hj => by rw [Addr.add_lit]; exact hvs j u hj) h1v
  go_enter Tryz.func186, Tryz.ntmps186
  go_wp2_with (at_builtin; refine wpList_append_room1 _ rfl _ _ 31 31 rfl 26 _ _ Tryz.underlying31 infoE b off n c rfl _ rfl m vs hsrc hroom (by rw [hvl]; exact hsp) (by rw [hvl]; exact hfz) ?_)
  go_ret
  exact ⟨rfl, rfl⟩

set_option maxHeartbeats 4000000 in
set_option maxRecDepth 100000 in
theorem ins_end_grow (base : Option Addr) (n c vb voff m vc : Nat) (cs vs : List Value) (w : World) (hm : 0 < m) (hnc : n ≤ c) (hroom : c < n + m) (hbig : (n + m) * 24 ≤ 140737488355328)
    (hcl : cs.length = n) (hvl : vs.length = m) (hnil : base = none → n = 0)
    (hcs : ∀ a, base = some a → ∀ j v, cs[j]? = some v → w.cell? (a.add j) = some v)
    (hvs : ∀ j v, vs[j]? = some v → w.cell? ⟨vb, voff + j, none⟩ = some v) (h1v : ∀ v ∈ vs, v.oneCell' = true) :
    Calls Tryz.prog 186 #[.slice base n c, .int .i64 n, .slice (some ⟨vb, voff, none⟩) m vc] w fun e w' =>
      e = .returned (.slice (some ⟨w.heap.size, 0, none⟩) (n + m) (grownCap w (n + m) c 26)) ∧
      w' = w.drew.alloc (.cells ((cs ++ vs).toArray ++ Builtin.zeroCells (Value.slice none 0 0).cells (grownCap w (n + m) c 26 - (n + m))) 26) := by
  have mixed : Tryz.prog.follows .mixedOrders = true := by kernel_rfl
  obtain ⟨i0, hi0, hz0, hzs, hzb⟩ := info_parts infoE
  have hz1 : ¬ ((m : Int) = 0) := by omega
  have hsrc : Src Tryz.prog i0.size 31 (.slice (some ⟨vb, voff, none⟩) m vc) m vs w := by
    rw [hzs]
    exact Src.ofSlice w Tryz.underlying31 ⟨vb, voff, none⟩ m vc vs (by omega) (fun j u hj => by rw [Addr.add_lit]; exact hvs j u hj) h1v
  have hold : (Builtin.firstCells i0.size n (.slice base n c)).run Tryz.prog w.drew = .ok cs.toArray w.drew := by
    rw [hzs]
    cases base with
    | none =>
      have h0 := hnil rfl
      subst h0
      rw [List.length_eq_zero_iff.1 hcl]
      exact run_firstCells_none w.drew 1 0 0 c
    | some a => exact run_firstCells_some w.drew 1 n a n c cs (by omega) (fun j v hj => hcs a rfl j v hj)
  have hrun : ∀ ty, (Builtin.append_ #[31, 31] ty #[.slice base n c, .slice (some ⟨vb, voff, none⟩) m vc]).run Tryz.prog w = _ := fun ty =>
    run_append_grow_src w 31 31 ty 26 i0 _ Tryz.underlying31 hi0 hz0 base n c cs hold _ m vs hsrc hroom (by omega) (by rw [hzb]; exact growslice_fits hroom hbig)
  go_enter Tryz.func186, Tryz.ntmps186
  cases base with
  | none =>
    have h0 := hnil rfl
    subst h0
    go_wp2_with (at_builtin; refine Lib.wpList_append_run _ rfl _ _ _ _ rfl _ _ rfl rfl _ _ (hrun _) ?_)
    go_ret
    exact ⟨rfl, rfl⟩
  | some a =>
    obtain ⟨ab, ao, asp⟩ := a
    go_wp2_with (at_builtin; refine Lib.wpList_append_run _ rfl _ _ _ _ rfl _ _ rfl rfl _ _ (hrun _) ?_)
    all_goals (go_ret; exact ⟨rfl, rfl⟩)

set_option maxHeartbeats 4000000 in
set_option maxRecDepth 100000 in
theorem ins_grow (b off n c i vb voff m vc : Nat) (cs vs : List Value) (w : World) (hi : i < n) (hm : 0 < m) (hnc : n ≤ c) (hroom : c < n + m) (hbig : (n + m) * 24 ≤ 140737488355328)
    (hcl : cs.length = n) (hvl : vs.length = m)
    (hcs : ∀ j v, cs[j]? = some v → w.cell? ⟨b, off + j, none⟩ = some v)
    (hvs : ∀ j v, vs[j]? = some v → w.cell? ⟨vb, voff + j, none⟩ = some v) (h1c : ∀ v ∈ cs, v.oneCell' = true) (h1v : ∀ v ∈ vs, v.oneCell' = true) :
    Calls Tryz.prog 186 #[.slice (some ⟨b, off, none⟩) n c, .int .i64 i, .slice (some ⟨vb, voff, none⟩) m vc] w fun e w' =>
      e = .returned (.slice (some ⟨w.heap.size, 0, none⟩) (n + m) (grownCap w (n + m) c 26)) ∧
      w' = (((w.alloc (.cells ((cs.take i).toArray ++ Builtin.zeroCells (Value.slice none 0 0).cells (n + m - i) ++ Builtin.zeroCells (Value.slice none 0 0).cells (grownCap w (n + m) c 26 - (n + m))) 26)).drew.setCells w.heap.size i vs).drew).setCells w.heap.size (i + m) (cs.drop i) := by
  have mixed : Tryz.prog.follows .mixedOrders = true := by kernel_rfl
  obtain ⟨i0, hi0, hz0, hzs, hzb⟩ := info_parts infoE
  have hz1 : ¬ ((m : Int) = 0) := by omega
  have hz2 : ¬ ((i : Int) = (n : Int)) := by omega
  have hz3 : (c : Int) < (n : Int) + (m : Int) := by omega
  have hsz : (Tryz.prog.info? 26).map (·.size) = some 1 := by rw [hi0]; simp [hzs]
  have hbw : b < w.heap.size := block_lt_of_cell (hcs 0 _ (List.getElem?_eq_getElem (by omega)))
  have hvw : vb < w.heap.size := block_lt_of_cell (hvs 0 _ (List.getElem?_eq_getElem (by omega)))
  have hkk : (n : Int) + (m : Int) - (i : Int) = ((n + m - i : Nat) : Int) := by omega
  have hik : i + (n + m - i) = n + m := by omega
  have hold : (Builtin.firstCells i0.size i (.slice (some ⟨b, off, none⟩) i c)).run Tryz.prog w.drew = .ok (cs.take i).toArray w.drew := by
    rw [hzs]
    exact run_firstCells_some w.drew 1 i ⟨b, off, none⟩ i c (cs.take i) (by rw [List.length_take]; omega) (fun j v hj => by
      rw [Addr.add_lit]
      rw [List.getElem?_take] at hj
      split at hj
      · exact hcs j v hj
      · cases hj)
  have hrz : ∀ ty, (Builtin.append_ #[31, 3] ty #[.slice (some ⟨b, off, none⟩) i c, .int .i64 ((n : Int) + (m : Int) - (i : Int))]).run Tryz.prog w =
      .ok (.slice (some ⟨w.heap.size, 0, none⟩) (n + m) (grownCap w (n + m) c 26)) (w.drew.alloc (.cells ((cs.take i).toArray ++ Builtin.zeroCells (Value.slice none 0 0).cells (n + m - i) ++ Builtin.zeroCells (Value.slice none 0 0).cells (grownCap w (n + m) c 26 - (n + m))) 26)) := fun ty => by
    have h := Lib.run_append_grow_zeros w 31 3 ty 26 i0 _ .i64 .i64 Tryz.underlying31 Tryz.underlying3 hi0 hz0 (some ⟨b, off, none⟩) i c (cs.take i) hold (n + m - i) (by omega) (by omega) (by omega) (by omega) (by rw [hzb]; omega) (by rw [hzb, hik]; exact growslice_fits hroom hbig)
    rw [hik] at h
    rw [hkk]
    exact h
  obtain ⟨G, hG⟩ : ∃ G, G = grownCap w (n + m) c 26 := ⟨_, rfl⟩
  obtain ⟨ROW, hROW⟩ : ∃ ROW : Array Value, ROW = (cs.take i).toArray ++ Builtin.zeroCells (Value.slice none 0 0).cells (n + m - i) ++ Builtin.zeroCells (Value.slice none 0 0).cells (G - (n + m)) := ⟨_, rfl⟩
  rw [← hG] at hrz ⊢
  rw [← hROW] at hrz ⊢
  have hRl : n + m ≤ ROW.size := by
    rw [hROW]
    simp [Builtin.zeroCells, Value.cells]
    omega
  obtain ⟨W1, hW1⟩ : ∃ W1, W1 = w.drew.alloc (.cells ROW 26) := ⟨_, rfl⟩
  rw [← hW1] at hrz
  have hN : ∀ j, j < n + m → (W1.cell? ⟨w.heap.size, j, none⟩).isSome = true := fun j hj => by
    rw [hW1, World.cell?_alloc_at (w := w.drew) ROW _ w.heap.size j rfl, Array.getElem?_eq_getElem (by omega)]; rfl
  have hNf : ∀ j, W1.frozen? ⟨w.heap.size, j, none⟩ = false := fun j => by rw [hW1]; exact World.frozen?_alloc_at (w := w.drew) ROW _ w.heap.size j rfl
  have hOb : ∀ j v, w.cell? ⟨b, j, none⟩ = some v → W1.cell? ⟨b, j, none⟩ = some v := fun j v h => by rw [hW1, World.cell?_alloc_past (w := w.drew) _ b j hbw]; exact h
  have hOv : ∀ j v, w.cell? ⟨vb, j, none⟩ = some v → W1.cell? ⟨vb, j, none⟩ = some v := fun j v h => by rw [hW1, World.cell?_alloc_past (w := w.drew) _ vb j hvw]; exact h
  have hcpA : ∀ (W : World), (∀ x, W.cell? x = W1.cell? x) → (∀ x, W.frozen? x = W1.frozen? x) → ∀ ty dc, (Builtin.copy_ #[31, 31] ty #[.slice (some ⟨w.heap.size, i, none⟩) (n + m - i) dc, .slice (some ⟨vb, voff, none⟩) m vc]).run Tryz.prog W = .ok (goInt vs.length) (W.setCells w.heap.size i vs) := fun W hWc hWf ty dc =>
    run_copy_cells W _ _ ty 26 w.heap.size i (n + m - i) dc ⟨vb, voff, none⟩ m vc vs Tryz.underlying31 hsz (by rw [hvl]; simp only [Nat.min_def]; split <;> omega)
      (fun j v hj => by rw [Addr.add_lit, hWc]; exact hOv _ v (hvs j v hj))
      (fun j hj => by rw [hWc]; exact hN _ (by omega)) (fun j hj => by rw [hWf]; exact hNf _) h1v
  have hGn : n + m ≤ G := by rw [hG]; exact grownCap_ge w _ _ _
  have hG63 : G ≤ 9223372036854775807 := by
    have := grownCap_le_maxLen w (n + m) c 26 (by unfold maxLen; omega)
    rw [← hG] at this
    unfold maxLen at this
    omega
  have hGi : ¬ (G = i) := by omega
  have hGim : ¬ (G = i + m) := by omega
  have hci : ¬ (c = i) := by omega
  have hbN : b ≠ w.heap.size := by omega
  have hdl : (cs.drop i).length = n - i := by rw [List.length_drop, hcl]
  have hcpB : ∀ (W : World), (∀ x, W.cell? x = (W1.setCells w.heap.size i vs).cell? x) → (∀ x, W.frozen? x = (W1.setCells w.heap.size i vs).frozen? x) → ∀ ty dc sc, (Builtin.copy_ #[31, 31] ty #[.slice (some ⟨w.heap.size, i + m, none⟩) (n + m - (i + m)) dc, .slice (some ⟨b, off + i, none⟩) (n - i) sc]).run Tryz.prog W = .ok (goInt (cs.drop i).length) (W.setCells w.heap.size (i + m) (cs.drop i)) := fun W hWc hWf ty dc sc =>
    run_copy_cells W _ _ ty 26 w.heap.size (i + m) (n + m - (i + m)) dc ⟨b, off + i, none⟩ (n - i) sc (cs.drop i) Tryz.underlying31 hsz (by rw [hdl]; simp only [Nat.min_def]; split <;> omega)
      (fun j v hj => by
        rw [Addr.add_lit, hWc, World.cell?_setCells_out _ _ _ _ _ (fun h _ => absurd h hbN), Nat.add_assoc]
        exact hOb _ v (hcs (i + j) v (by rwa [List.getElem?_drop] at hj)))
      (fun j hj => by rw [hWc]; exact isSome_setCells _ _ _ _ (fun t ht => hN _ (by omega)) _ (hN _ (by omega)))
      (fun j hj => by rw [hWf, World.frozen?_setCells]; exact hNf _) (fun v hv => h1c v (List.mem_of_mem_drop hv))
  subst hW1
  have hE1 : ∀ x, ((w.alloc (.cells ROW 26)).drew).cell? x = (w.drew.alloc (.cells ROW 26)).cell? x := fun x => rfl
  have hE2 : ∀ x, ((w.alloc (.cells ROW 26)).drew).frozen? x = (w.drew.alloc (.cells ROW 26)).frozen? x := fun x => rfl
  have hF1 : ∀ x, (((w.alloc (.cells ROW 26)).drew.setCells w.heap.size i vs).drew).cell? x = ((w.drew.alloc (.cells ROW 26)).setCells w.heap.size i vs).cell? x := fun x => rfl
  have hF2 : ∀ x, (((w.alloc (.cells ROW 26)).drew.setCells w.heap.size i vs).drew).frozen? x = ((w.drew.alloc (.cells ROW 26)).setCells w.heap.size i vs).frozen? x := fun x => rfl
  have hw1 : IntKind.i64.wrap ((i : Int) + (m : Int)) = (i : Int) + (m : Int) := by rw [IntKind.wrap_i64]; omega
  have hb1 : (0 : Int) ≤ (i : Int) + (m : Int) := by omega
  have hin : i ≤ n := by omega
  have htn : ((i : Int) + (m : Int)).toNat = i + m := by omega
  have hb3 : (i : Int) ≤ (n : Int) := by omega
  clear hkk hik hold hROW hG hRl
  go_enter Tryz.func186, Tryz.ntmps186
  go_wp2_with (first
    | (at_builtin; refine Lib.wpList_append_run _ rfl _ _ _ _ rfl _ _ rfl rfl _ _ (hrz _) ?_)
    | (at_builtin; refine wpList_copy_runI _ rfl _ _ 31 31 rfl _ _ rfl rfl (hcpA _ hE1 hE2 _ _) ?_)
    | (at_builtin; refine wpList_copy_runI _ rfl _ _ 31 31 rfl _ _ rfl rfl (hcpB _ (fun _ => rfl) (fun _ => rfl) _ _ _) ?_))
  go_region_law_o (refine step_copy_runI rfl _ _ 31 31 rfl (.slice (some ⟨w.heap.size, i + m, none⟩) (n + m - (i + m)) (G - (i + m))) (.slice (some ⟨b, off + i, none⟩) (n - i) (c - i)) (by simp [Act.eval, Act.put]) (by simp [Act.eval, Act.put]) (hcpB _ hF1 hF2 3 (G - (i + m)) (c - i)) ?_)
  go_wp2
  go_ret
  exact ⟨rfl, rfl⟩
theorem roads : InsRoads Tryz.prog 186 26 (Value.slice none 0 0) := ⟨rfl, ins_shift, ins_end_room, ins_end_grow, ins_grow⟩
theorem insert : Ok Tryz.prog 186 (mkSem [.move (.ow .sh), .sh, .move (.ow .sh)] 1 SII (.ow .sh) .unit (.pair SII (.pair I (.pair SII .unit))) insF) :=
  ⟨insert_contract roads, Tryz.f186, Tryz.func186, by kernel_rfl, by kernel_rfl⟩

def laysSort_ren : Go.Shelf.Ren := ⟨fun x => match x with | 189 => 138 | 125 => 173 | 257 => 172 | 128 => 201 | 129 => 202 | 294 => 192 | 295 => 193 | 296 => 194 | 297 => 195 | 298 => 196 | 299 => 197 | 216 => 198 | 300 => 199 | 301 => 200 | 328 => 211 | 329 => 212 | 330 => 213 | 331 => 214 | 332 => 215 | 215 => 216 | 343 => 221 | n => n, fun x => match x with | 28 => 26 | 3 => 3 | 46 => 171 | 0 => 0 | 51 => 194 | 53 => 196 | 4 => 4 | 183 => 187 | 182 => 186 | 131 => 179 | 5 => 5 | 9 => 9 | 218 => 204 | 222 => 208 | 228 => 214 | 229 => 215 | n => n, fun n => n⟩
theorem laysSort : Lays.n189 Tryz.prog laysSort_ren := {
  mixed := by kernel_rfl,
  f125 := Tryz.func173.trans (congrArg some (by kernel_rfl)),
  f128 := Tryz.func201.trans (congrArg some (by kernel_rfl)),
  f129 := Tryz.func202.trans (congrArg some (by kernel_rfl)),
  f189 := Tryz.func138.trans (congrArg some (by kernel_rfl)),
  f215 := Tryz.func216.trans (congrArg some (by kernel_rfl)),
  f216 := Tryz.func198.trans (congrArg some (by kernel_rfl)),
  f257 := Tryz.func172.trans (congrArg some (by kernel_rfl)),
  f294 := Tryz.func192.trans (congrArg some (by kernel_rfl)),
  f295 := Tryz.func193.trans (congrArg some (by kernel_rfl)),
  f296 := Tryz.func194.trans (congrArg some (by kernel_rfl)),
  f297 := Tryz.func195.trans (congrArg some (by kernel_rfl)),
  f298 := Tryz.func196.trans (congrArg some (by kernel_rfl)),
  f299 := Tryz.func197.trans (congrArg some (by kernel_rfl)),
  f300 := Tryz.func199.trans (congrArg some (by kernel_rfl)),
  f301 := Tryz.func200.trans (congrArg some (by kernel_rfl)),
  f328 := Tryz.func211.trans (congrArg some (by kernel_rfl)),
  f329 := Tryz.func212.trans (congrArg some (by kernel_rfl)),
  f330 := Tryz.func213.trans (congrArg some (by kernel_rfl)),
  f331 := Tryz.func214.trans (congrArg some (by kernel_rfl)),
  f332 := Tryz.func215.trans (congrArg some (by kernel_rfl)),
  f343 := Tryz.func221.trans (congrArg some (by kernel_rfl)),
  t0 := Tryz.underlying0,
  a0 := Tryz.isAgg0,
  z0 := Tryz.sizeOf0,
  v0 := Tryz.zeroValue0,
  t3 := Tryz.underlying3,
  a3 := Tryz.isAgg3,
  z3 := Tryz.sizeOf3,
  v3 := Tryz.zeroValue3,
  t4 := Tryz.underlying4,
  a4 := Tryz.isAgg4,
  z4 := Tryz.sizeOf4,
  v4 := Tryz.zeroValue4,
  t5 := Tryz.underlying5,
  a5 := Tryz.isAgg5,
  z5 := Tryz.sizeOf5,
  v5 := Tryz.zeroValue5,
  t9 := Tryz.underlying9,
  a9 := Tryz.isAgg9,
  z9 := Tryz.sizeOf9,
  v9 := Tryz.zeroValue9,
  t28 := Tryz.underlying26,
  a28 := Tryz.isAgg26,
  z28 := Tryz.sizeOf26,
  v28 := Tryz.zeroValue26,
  t46 := Tryz.underlying171,
  a46 := Tryz.isAgg171,
  z46 := Tryz.sizeOf171,
  v46 := Tryz.zeroValue171,
  t51 := Tryz.underlying194,
  a51 := Tryz.isAgg194,
  z51 := Tryz.sizeOf194,
  v51 := Tryz.zeroValue194,
  t53 := Tryz.underlying196,
  a53 := Tryz.isAgg196,
  z53 := Tryz.sizeOf196,
  v53 := Tryz.zeroValue196,
  t131 := Tryz.underlying179,
  a131 := Tryz.isAgg179,
  z131 := Tryz.sizeOf179,
  v131 := Tryz.zeroValue179,
  t182 := Tryz.underlying186,
  a182 := Tryz.isAgg186,
  z182 := Tryz.sizeOf186,
  v182 := Tryz.zeroValue186,
  t183 := Tryz.underlying187,
  a183 := Tryz.isAgg187,
  z183 := Tryz.sizeOf187,
  v183 := Tryz.zeroValue187,
  t218 := Tryz.underlying204,
  a218 := Tryz.isAgg204,
  z218 := Tryz.sizeOf204,
  v218 := Tryz.zeroValue204,
  t222 := Tryz.underlying208,
  a222 := Tryz.isAgg208,
  z222 := Tryz.sizeOf208,
  v222 := Tryz.zeroValue208,
  t228 := Tryz.underlying214,
  a228 := Tryz.isAgg214,
  z228 := Tryz.sizeOf214,
  v228 := Tryz.zeroValue214,
  t229 := Tryz.underlying215,
  a229 := Tryz.isAgg215,
  z229 := Tryz.sizeOf215,
  v229 := Tryz.zeroValue215 }
theorem sort : Ok Tryz.prog 138 (mkSem [.loan (.ow .sh)] 0 .unit .sh SI (.pair SI .unit) sortF) :=
  ⟨sort_contract ⟨fun b o c z w h1 h2 h3 => Any.slices_Sort_int laysSort b o c z w h1 h2 h3, fun p c w => Any.slices_Sort_int_none laysSort p c w⟩, Tryz.f138, Tryz.func138, by kernel_rfl, by kernel_rfl⟩
def laysCompact_ren : Go.Shelf.Ren := ⟨fun x => match x with | 20 => 139 | n => n, fun x => match x with | 22 => 26 | 3 => 3 | 4 => 4 | 0 => 0 | n => n, fun n => n⟩
theorem laysCompact : Lays2.n20 Tryz.prog laysCompact_ren := {
  mixed := by kernel_rfl,
  f20 := Tryz.func139.trans (congrArg some (by kernel_rfl)),
  t0 := Tryz.underlying0,
  a0 := Tryz.isAgg0,
  z0 := Tryz.sizeOf0,
  v0 := Tryz.zeroValue0,
  t3 := Tryz.underlying3,
  a3 := Tryz.isAgg3,
  z3 := Tryz.sizeOf3,
  v3 := Tryz.zeroValue3,
  t4 := Tryz.underlying4,
  a4 := Tryz.isAgg4,
  z4 := Tryz.sizeOf4,
  v4 := Tryz.zeroValue4,
  t22 := Tryz.underlying26,
  a22 := Tryz.isAgg26,
  z22 := Tryz.sizeOf26,
  v22 := Tryz.zeroValue26,
  i3 := by kernel_rfl }
theorem compact : Ok Tryz.prog 139 (mkSem [.move (.ow .sh)] 1 SI (.ow .sh) .unit (.pair SI .unit) compactF) :=
  ⟨compact_contract ⟨fun b o c z w h1 h2 h3 => Any.slices_Compact_int laysCompact b o c z w h1 h2 h3, fun p c w => Any.slices_Compact_int_empty laysCompact p c w⟩, Tryz.f139, Tryz.func139, by kernel_rfl, by kernel_rfl⟩
set_option maxHeartbeats 1000000 in
set_option maxRecDepth 100000 in
theorem mul64_one (m : Nat) (hm : m < 4294967296) (w : World) : Calls Tryz.prog 219 #[.int .u64 1, .int .u64 m] w fun e w' => e = .returned (.tuple #[.int .u64 0, .int .u64 m]) ∧ w' = w := by
  have h1 : bits BinOp.and IntKind.u64 1 4294967295 = 1 := by decide
  have h2 : bits BinOp.and IntKind.u64 (m : Int) 4294967295 = m := by
    have e : IntKind.u64.wrap (((BitVec.ofInt 64 (m : Int) &&& BitVec.ofInt 64 4294967295).toNat : Nat) : Int) = m := by
      rw [mask32 hm]; exact IntWalk.u64_in _ ⟨by omega, by omega⟩
    exact e
  have h3 : (m : Int) / 4294967296 = 0 := by omega
  have h4 : IntKind.u64.wrap (m : Int) = m := IntWalk.u64_in _ ⟨by omega, by omega⟩
  have h5 : IntKind.u64.wrap 0 = 0 := rfl
  have h6 : bits BinOp.and IntKind.u64 0 4294967295 = 0 := by decide
  go_enter Tryz.func219, Tryz.ntmps219
  go_wp2
  go_ret2
  simp [h1, h2, h3, h4, h5, h6]
set_option maxHeartbeats 1000000 in
set_option maxRecDepth 100000 in
theorem mul_one (m : Nat) (hm : m < 4294967296) (w : World) : Calls Tryz.prog 206 #[.int .u64 1, .int .u64 m] w fun e w' => e = .returned (.tuple #[.int .u64 0, .int .u64 m]) ∧ w' = w := by
  go_enter Tryz.func206, Tryz.ntmps206
  go_wp2_with fail
  go_call (mul64_one m hm w) as e w' ⟨he, hb⟩
  subst he hb
  go_wp2
  go_ret2
  exact ⟨rfl, rfl⟩
theorem infoI : (Tryz.prog.info? 3).map (fun i => (i.zero, i.size, i.bytes)) = some (some (Value.int .i64 0), 1, 8) := by kernel_rfl
set_option maxHeartbeats 4000000 in
set_option maxRecDepth 100000 in
theorem rep_walk (b off c m : Nat) (x : Int) (w : World) (hx : w.cell? ⟨b, off, none⟩ = some (.int .i64 x)) (hb : b < w.heap.size) (h1 : 1 ≤ m) (hm : m < 4294967296) :
    Calls Tryz.prog 180 #[.slice (some ⟨b, off, none⟩) 1 c, .int .i64 m] w fun e w' => e = .returned (.slice (some ⟨w.heap.size, 0, none⟩) m m) ∧ Fill w w' m m 3 (.int .i64 x) := by
  have h4 : IntKind.u64.wrap (m : Int) = m := IntWalk.u64_in _ ⟨by omega, by omega⟩
  have h5 : IntKind.i64.wrap (m : Int) = m := IntWalk.i64_in _ ⟨by omega, by omega⟩
  have h6 : IntKind.u64.wrap 1 = 1 := rfl
  have mixed : Tryz.prog.follows .mixedOrders = true := by kernel_rfl
  obtain ⟨i0, hi0, q0, q1, q2⟩ := info_parts infoI
  have hsz : (Tryz.prog.info? 3).map (·.size) = some 1 := by rw [hi0]; simp [q1]
  have hmk : ∀ w : World, (Instr.makeSlice 26 (.int .i64 m) (.int .i64 m)).run Tryz.prog w = .ok (.slice (some ⟨w.heap.size, 0, none⟩) m m) (w.alloc (.cells (madeCells #[.int .i64 0] m) 3)) := fun w => by
    have := run_make w 26 3 i0 (.int .i64 0) Tryz.underlying26 hi0 q0 .i64 .i64 (m : Int) (m : Int) (by omega) (by omega) (by rw [q2]; omega) (by omega)
    rw [q1, Nat.mul_one, Int.toNat_natCast] at this
    exact this
  have F0 := fill_new w m 3 (.int .i64 0) (.int .i64 x)
  have hx1 : (w.alloc (.cells (madeCells #[Value.int .i64 0] m) 3)).cell? ⟨b, off, none⟩ = some (.int .i64 x) := by
    unfold World.cell? at hx ⊢
    rw [F0.old b hb]; exact hx
  have hcp1 : ∀ ty, (Builtin.copy_ #[26, 26] ty #[.slice (some ⟨w.heap.size, 0, none⟩) m m, .slice (some ⟨b, off, none⟩) 1 c]).run Tryz.prog (w.alloc (.cells (madeCells #[Value.int .i64 0] m) 3)) = .ok (goInt 1) ((w.alloc (.cells (madeCells #[Value.int .i64 0] m) 3)).setCells w.heap.size 0 [.int .i64 x]) := fun ty =>
    run_copy_cells _ 26 26 ty 3 w.heap.size 0 m m ⟨b, off, none⟩ 1 c [.int .i64 x] Tryz.underlying26 hsz (by simp [Nat.min_def]; omega)
      (fun j v hj => by
        cases j with
        | zero => simp at hj; subst hj; simpa [Addr.add] using hx1
        | succ j => simp at hj)
      (fun j hj => by rw [Nat.zero_add]; exact F0.is (by simp at hj; omega)) (fun j hj => by rw [Nat.zero_add]; exact F0.fz j) (fun v hv => by rw [List.mem_singleton.1 hv]; rfl)
  have F1 : Fill w ((w.alloc (.cells (madeCells #[Value.int .i64 0] m) 3)).setCells w.heap.size 0 [.int .i64 x]) m 1 3 (.int .i64 x) := F0.more (k := 1) (by omega)
  go_enter Tryz.func180, Tryz.ntmps180
  go_wp2_with fail
  go_call (mul_one m hm w) as e w' ⟨he, hw⟩
  subst he hw
  go_wp2_with (simp only [hcp1])
  have hadd : ∀ n : Nat, n < m → (if m = n then (some ⟨w'.heap.size, 0, none⟩ : Option Addr) else some ⟨w'.heap.size, 0 + n, none⟩) = some ⟨w'.heap.size, n, none⟩ := fun n hn => by rw [if_neg (by omega), Nat.zero_add]
  go_loopg [8] m (fun k s8 wr => ∃ n : Nat, s8 = .int .i64 n ∧ 1 ≤ n ∧ n ≤ m ∧ m - n ≤ k ∧ Fill w' wr m n 3 (.int .i64 x))
  case atStart => exact ⟨1, rfl, by omega, h1, by omega, F1⟩
  case round =>
    obtain ⟨n, rfl, hn1, hnm, hk, F⟩ := hrel
    by_cases hlt : n < m
    · have hcp : ∀ ty, (Builtin.copy_ #[26, 26] ty #[.slice (some ⟨w'.heap.size, n, none⟩) (m - n) (m - n), .slice (some ⟨w'.heap.size, 0, none⟩) n m]).run Tryz.prog wr.drew = .ok (goInt (min n (m - n) : Nat)) (wr.drew.setCells w'.heap.size n (List.replicate (min n (m - n)) (.int .i64 x))) := fun ty => by
        have := run_copy_cells wr.drew 26 26 ty 3 w'.heap.size n (m - n) (m - n) ⟨w'.heap.size, 0, none⟩ n m (List.replicate (min n (m - n)) (.int .i64 x)) Tryz.underlying26 hsz (by rw [List.length_replicate])
          (fun j v hj => by
            rw [List.getElem?_replicate] at hj
            split at hj
            · injection hj with hj
              subst hj
              rw [Addr.add_lit, Nat.zero_add]
              exact F.drew.cell (by omega)
            · cases hj)
          (fun j hj => by rw [List.length_replicate] at hj; exact F.drew.is (by omega)) (fun j hj => F.drew.fz _) (fun v hv => by rw [List.eq_of_mem_replicate hv]; rfl)
        rw [List.length_replicate] at this
        exact this
      have hmn : ¬ m = n := by omega
      go_wp2_with fail
      go_region_law_o (refine step_copy_runI rfl _ _ 26 26 rfl _ _ (by simp [Act.eval, Act.put, hmn]) (by simp [Act.eval, Act.put]) (hcp _) ?_)
      have hwr : IntKind.i64.wrap ((n : Int) + ((min n (m - n) : Nat) : Int)) = ((n + min n (m - n) : Nat) : Int) := by
        rw [IntWalk.i64_in _ ⟨by omega, by omega⟩]; omega
      rw [hwr]
      go_wp2
      go_roundg (m - (n + min n (m - n)))
      case measure => omega
      case rel => exact ⟨n + min n (m - n), rfl, by omega, by omega, Nat.le_refl _, F.drew.more (by omega)⟩
    · go_wp2
      go_ret
      have hnm' : n = m := by omega
      subst hnm'
      exact ⟨rfl, F⟩
set_option maxHeartbeats 4000000 in
set_option maxRecDepth 100000 in
theorem rep_zero (b off c : Nat) (x : Int) (w : World) (hx : w.cell? ⟨b, off, none⟩ = some (.int .i64 x)) (hb : b < w.heap.size) :
    Calls Tryz.prog 180 #[.slice (some ⟨b, off, none⟩) 1 c, .int .i64 0] w fun e w' => e = .returned (.slice (some ⟨w.heap.size, 0, none⟩) 0 0) ∧ Fill w w' 0 0 3 (.int .i64 x) := by
  have h4 : IntKind.u64.wrap 0 = 0 := rfl
  have h6 : IntKind.u64.wrap 1 = 1 := rfl
  have mixed : Tryz.prog.follows .mixedOrders = true := by kernel_rfl
  obtain ⟨i0, hi0, q0, q1, q2⟩ := info_parts infoI
  have hsz : (Tryz.prog.info? 3).map (·.size) = some 1 := by rw [hi0]; simp [q1]
  have hmk0 : ∀ w : World, (Instr.makeSlice 26 (.int .i64 0) (.int .i64 0)).run Tryz.prog w = .ok (.slice (some ⟨w.heap.size, 0, none⟩) 0 0) (w.alloc (.cells (madeCells #[.int .i64 0] 0) 3)) := fun w => by
    have := run_make w 26 3 i0 (.int .i64 0) Tryz.underlying26 hi0 q0 .i64 .i64 0 0 (by omega) (by omega) (by omega) (by omega)
    rw [q1] at this
    exact this
  have F0 := fill_new w 0 3 (.int .i64 0) (.int .i64 x)
  have hcp0 : ∀ ty (w1 : World), (Builtin.copy_ #[26, 26] ty #[.slice (some ⟨w.heap.size, 0, none⟩) 0 0, .slice (some ⟨b, off, none⟩) 1 c]).run Tryz.prog w1 = .ok (goInt 0) w1 := fun ty w1 =>
    run_copy_none w1 26 26 ty 3 _ _ 0 0 1 c Tryz.underlying26 hsz (by simp)
  go_enter Tryz.func180, Tryz.ntmps180
  go_wp2_with fail
  go_call (mul_one 0 (by omega) w) as e w' ⟨he, hw⟩
  subst he hw
  go_wp2_with (simp only [hmk0])
  go_wp2_with (simp only [hcp0])
  go_loopg [8] 0 (fun k s8 wr => s8 = .int .i64 0 ∧ wr = (w'.alloc (.cells (madeCells #[Value.int .i64 0] 0) 3)))
  case atStart => exact ⟨rfl, rfl⟩
  case round =>
    obtain ⟨rfl, rfl⟩ := hrel
    go_wp2
    go_ret
    exact ⟨rfl, F0⟩
theorem repeat_roads : RepRoads Tryz.prog 180 3 := ⟨rep_walk, rep_zero⟩
theorem rep : Ok Tryz.prog 180 (mkSem [.sh, .sh] 1 SI (.ow .sh) .unit (.pair SI (.pair I .unit)) repF) :=
  ⟨rep_contract repeat_roads, Tryz.f180, Tryz.func180, by kernel_rfl, by kernel_rfl⟩
end Go.Ev.Giv
