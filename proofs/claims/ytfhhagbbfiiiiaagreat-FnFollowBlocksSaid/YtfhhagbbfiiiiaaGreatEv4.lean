/- A verified evaluator for the operations of a translated program, part 4. -/
import Derived.Test.YtfhhagbbfiiiiaaGreatEv3
import Derived.WalkKit
import Derived.ProofKit
import Derived.OpenShut
import Derived.ShutString
import Derived.ChangeOld
import Derived.Below
import Derived.SizedLaws
import GoSem.Claim
import Derived.Laws.IdiomCopy
import Derived.Deep.Upon
import Derived.Sort.Grow
import Derived.Shelf.Sort.Plain
import Derived.Shelf.Slices.CompactI
noncomputable section
namespace Go.Ev
open Go.ChangeShapes Go.WideShapes Go.ChangeAt
variable {P : Program}
def hasRow : S → Bool
  | .slice _ _ => true
  | .agg s => hasRow s
  | .pair a b => hasRow a || hasRow b
  | _ => false
def plainS : S → Bool
  | .int _ => true
  | .bool => true
  | .str => true
  | .slice nl s => !nl && plainS s
  | .agg s => plainS s
  | .pair a b => plainS a && plainS b
  | _ => false
theorem plainS_arr {s : S} (h : plainS (.agg s) = true) : isArr s = false := by
  cases s with
  | pair a b => cases a <;> first | rfl | simp [plainS] at h
  | _ => rfl
def Wf : (s : S) → El s → Prop
  | .int k, n => k.min ≤ n ∧ n ≤ k.max
  | .str, x => x.size ≤ maxLen
  | .slice _ s, xs => xs.length ≤ maxLen ∧ ∀ x ∈ xs, Wf s x
  | .agg s, x => Wf s x
  | .pair a b, x => Wf a x.1 ∧ Wf b x.2
  | _, _ => True
def allSh' : Col := fun _ => some []
def SpotOk (cs : List Value) : Prop := ∀ ad n c, Value.slice (some ad) n c ∈ cs → ad.spot = none
theorem pick_list {α : Type} {Q : Nat → α → Prop} : ∀ n, (∀ i, i < n → ∃ y, Q i y) → ∃ ys : List α, ys.length = n ∧ ∀ i y, ys[i]? = some y → Q i y
  | 0, _ => ⟨[], rfl, fun i y h => by simp at h⟩
  | n + 1, h => by
    obtain ⟨ys, h1, h2⟩ := pick_list n (fun i hi => h i (by omega))
    obtain ⟨y, hy⟩ := h n (by omega)
    refine ⟨ys ++ [y], by simp [h1], fun i z hz => ?_⟩
    rcases Nat.lt_or_ge i ys.length with hl | hl
    · rw [List.getElem?_append_left hl] at hz; exact h2 i z hz
    · rw [List.getElem?_append_right hl] at hz
      have : i - ys.length = 0 := by
        rcases Nat.eq_zero_or_pos (i - ys.length) with h | h
        · exact h
        · rw [List.getElem?_eq_none (by simp; omega)] at hz; cases hz
      rw [this] at hz
      simp at hz
      subst hz
      have : i = n := by omega
      rw [this]; exact hy
theorem cellsOf_eq {s : S} {T : TypeId} (h : Fits P s T) : P.cellsOf T = size s := by
  obtain ⟨i, z, h1, h2, _⟩ := h.info
  simp [Program.cellsOf, h1, h2]
theorem SpotOk.sub {cs ds : List Value} (h : SpotOk cs) (hs : ∀ v ∈ ds, v ∈ cs) : SpotOk ds := fun ad n c hm => h ad n c (hs _ hm)
variable {H : Type} {enc : TypeId × Value → H} {W : World} {held : Bool}
theorem trod_rep : ∀ s : S, (plainS s = true → ∀ (T : TypeId) (fuel : Nat) (cs : List Value) (x : DataW H × List MemPlace), Fits P s T → DataW.trod enc P W 0 (fun _ => true) held fuel T cs = some x →
      ∃ y : El s, (∀ p, Rep P s W allSh' none p .sh y cs) ∧ Wf s y) ∧
    (plainS s = true → ∀ (off : Nat) (fs : List Field) (cs : List Value), FitsF P s off fs → (∀ f ∈ fs, ∃ n x, DataW.trod enc P W 0 (fun _ => true) held n f.type ((cs.drop f.offset).take (P.cellsOf f.type)) = some x) →
      ∃ y : El s, (∀ p, Rep P s W allSh' none p .sh y ((cs.drop off).take (size s))) ∧ Wf s y) := by
  intro s
  have one : ∀ (s : S), (plainS s = true → ∀ (T : TypeId) (fuel : Nat) (cs : List Value) (x : DataW H × List MemPlace), Fits P s T → DataW.trod enc P W 0 (fun _ => true) held fuel T cs = some x →
      ∃ y : El s, (∀ p, Rep P s W allSh' none p .sh y cs) ∧ Wf s y) → plainS s = true → ∀ (off : Nat) (fs : List Field) (cs : List Value), FOne P (Fits P s) off fs → (∀ f ∈ fs, ∃ n x, DataW.trod enc P W 0 (fun _ => true) held n f.type ((cs.drop f.offset).take (P.cellsOf f.type)) = some x) →
      ∃ y : El s, (∀ p, Rep P s W allSh' none p .sh y ((cs.drop off).take (size s))) ∧ Wf s y := by
    intro s h hp off fs cs ⟨f, e, h1, h2, h3⟩ hf
    subst e
    obtain ⟨n, x, hx⟩ := hf f (by simp)
    rw [h1, cellsOf_eq h3] at hx
    exact h hp f.type n _ x h3 hx
  induction s with
  | unit => exact ⟨fun h => by simp [plainS] at h, fun h => by simp [plainS] at h⟩
  | ptr s _ => exact ⟨fun h => by simp [plainS] at h, fun h => by simp [plainS] at h⟩
  | func a b _ _ => exact ⟨fun h => by simp [plainS] at h, fun h => by simp [plainS] at h⟩
  | map a b _ _ => exact ⟨fun h => by simp [plainS] at h, fun h => by simp [plainS] at h⟩
  | int k =>
    have main : plainS (.int k) = true → ∀ (T : TypeId) (fuel : Nat) (cs : List Value) (x : DataW H × List MemPlace), Fits P (.int k) T → DataW.trod enc P W 0 (fun _ => true) held fuel T cs = some x → ∃ y : El (.int k), (∀ p, Rep P (.int k) W allSh' none p .sh y cs) ∧ Wf (.int k) y := by
      intro _ T fuel cs x hf h
      obtain ⟨n, h1, _, h2⟩ := DataW.trod_int hf.1 h
      refine ⟨n, fun p => h1, ?_⟩
      have : k.min ≤ n ∧ n ≤ k.max := by simpa [Lit.wf] using h2
      exact this
    exact ⟨main, fun hp off fs cs hf => one _ main hp off fs cs hf⟩
  | bool =>
    have main : plainS .bool = true → ∀ (T : TypeId) (fuel : Nat) (cs : List Value) (x : DataW H × List MemPlace), Fits P .bool T → DataW.trod enc P W 0 (fun _ => true) held fuel T cs = some x → ∃ y : El .bool, (∀ p, Rep P .bool W allSh' none p .sh y cs) ∧ Wf .bool y := by
      intro _ T fuel cs x hf h
      obtain ⟨n, h1, _⟩ := DataW.trod_bool hf.1 h
      exact ⟨n, fun p => h1, trivial⟩
    exact ⟨main, fun hp off fs cs hf => one _ main hp off fs cs hf⟩
  | str =>
    have main : plainS .str = true → ∀ (T : TypeId) (fuel : Nat) (cs : List Value) (x : DataW H × List MemPlace), Fits P .str T → DataW.trod enc P W 0 (fun _ => true) held fuel T cs = some x → ∃ y : El .str, (∀ p, Rep P .str W allSh' none p .sh y cs) ∧ Wf .str y := by
      intro _ T fuel cs x hf h
      obtain ⟨n, h1, _, h2⟩ := DataW.trod_string hf.1 h
      exact ⟨n, fun p => h1, h2⟩
    exact ⟨main, fun hp off fs cs hf => one _ main hp off fs cs hf⟩
  | slice nl s ih =>
    have main : plainS (.slice nl s) = true → ∀ (T : TypeId) (fuel : Nat) (cs : List Value) (x : DataW H × List MemPlace), Fits P (.slice nl s) T → DataW.trod enc P W 0 (fun _ => true) held fuel T cs = some x → ∃ y : El (.slice nl s), (∀ p, Rep P (.slice nl s) W allSh' none p .sh y cs) ∧ Wf (.slice nl s) y := by
      intro hp T fuel cs x hf h
      simp only [plainS, Bool.and_eq_true, Bool.not_eq_true'] at hp
      obtain ⟨⟨e, hu, hfe⟩, _⟩ := hf
      rcases DataW.trod_slice hu h with ⟨h1, _⟩ | ⟨a, len, cap, elems, rest, n, _, h1, _, hb, hl, hm, hlen, hel, hrest, _⟩
      · refine ⟨[], fun p => ?_, Nat.zero_le _, fun x hx => by simp at hx⟩
        rw [h1]; exact Rep_nil nl s W allSh' p .sh
      · have hpos := Fits.pos hfe
        have hspot : cap ≠ 0 → a.spot = none := by
          intro hc
          have key : ∀ z : Option (DataW H × List MemPlace), z ≠ none → (W.cells? 0 (a.add (0 * P.cellsOf e)) (P.cellsOf e)).bind (DataW.trod enc P W 0 (fun _ => true) held n e) = z → a.spot = none := by
            intro z hz hq
            cases hcs : W.cells? 0 (a.add (0 * P.cellsOf e)) (P.cellsOf e) with
            | none => rw [hcs] at hq; exact absurd hq.symm hz
            | some ds =>
              obtain ⟨_, hdl, hdc⟩ := World.cells?_some hcs
              rw [cellsOf_eq hfe] at hdl hdc
              have h0 := hdc 0 hpos
              rw [List.getElem?_eq_getElem (by omega)] at h0
              have : (a.add (0 * size s)).add 0 = a := by simp [Addr.add]
              rw [this] at h0
              unfold World.cell? at h0
              split at h0
              · split at h0
                · cases h0
                · rename_i hns
                  cases hsp : a.spot with
                  | none => rfl
                  | some _ => rw [hsp] at hns; exact absurd rfl hns
              · cases h0
          by_cases hl0 : len = 0
          · obtain ⟨hr1, hr2⟩ := hrest rfl
            have := hr2 0 (by omega)
            rw [hl0] at this
            exact key _ (by rw [List.getElem?_eq_getElem (by omega)]; simp) this
          · have := hel 0 (by omega)
            exact key _ (by rw [List.getElem?_eq_getElem (by omega)]; simp) this
        have each : ∀ i, i < len → ∃ y : El s, (∃ ds, At W a.block (a.off + i * size s) ds ∧ a.block < W.heap.size ∧ ∀ p, Rep P s W allSh' none p .sh y ds) ∧ Wf s y := by
          intro i hi
          have hspot := hspot (by omega)
          have he := hel i hi
          rw [cellsOf_eq hfe] at he
          have hi' : i < elems.length := by omega
          rw [List.getElem?_eq_getElem hi'] at he
          simp only [Option.bind_eq_some_iff] at he
          obtain ⟨ds, hds, htr⟩ := he
          obtain ⟨_, hdl, hdc⟩ := World.cells?_some hds
          have hblk : (a.add (i * size s)).block = a.block := by rw [addr_add hspot]
          have hat : At W a.block (a.off + i * size s) ds := by
            intro j v hj
            have hjl : j < size s := by
              rcases Nat.lt_or_ge j (size s) with h | h
              · exact h
              · rw [List.getElem?_eq_none (by omega)] at hj; cases hj
            have := hdc j hjl
            rw [hj, addr_add hspot] at this
            rw [addr_add rfl] at this
            exact this
          have hlt : a.block < W.heap.size := by
            have := World.cells?_block hds hpos
            rw [hblk] at this; exact this
          obtain ⟨y, hy1, hy2⟩ := ih.1 hp.2 e n ds _ hfe htr
          exact ⟨y, ⟨ds, hat, hlt, hy1⟩, hy2⟩
        obtain ⟨ys, hys, hyq⟩ := pick_list len each
        refine ⟨ys, fun p => ⟨some a, cap, ?_, ?_, fun hn => ?_, (fun hn => by cases hn), fun ad had => ?_⟩, by omega, fun y hy => ?_⟩
        · rw [h1, hys]
        · omega
        · rw [hp.1] at hn; cases hn
        · injection had with had
          subst had
          refine ⟨fun h => h.elim hspot (fun h => by simp [isOw] at h), (fun h => by simp [isOw] at h), fun _ => ?_, fun i y hi => ?_⟩
          · cases ys with
            | nil => exact .inl rfl
            | cons y ys =>
              obtain ⟨⟨ds, _, hlt, _⟩, _⟩ := hyq 0 y rfl
              exact .inr ⟨rfl, hlt⟩
          · obtain ⟨⟨ds, hat, _, hr⟩, _⟩ := hyq i y hi
            exact ⟨ds, hat, hr _⟩
        · obtain ⟨i, hi⟩ := List.getElem?_of_mem hy
          exact (hyq i y hi).2
    exact ⟨main, fun hp off fs cs hf => one _ main hp off fs cs hf⟩
  | agg s ih =>
    have main : plainS (.agg s) = true → ∀ (T : TypeId) (fuel : Nat) (cs : List Value) (x : DataW H × List MemPlace), Fits P (.agg s) T → DataW.trod enc P W 0 (fun _ => true) held fuel T cs = some x → ∃ y : El (.agg s), (∀ p, Rep P (.agg s) W allSh' none p .sh y cs) ∧ Wf (.agg s) y := by
      intro hp T fuel cs x hf h
      have hsz := cellsOf_eq hf
      obtain ⟨fs, hu, hff, _, _⟩ := hf.struct (plainS_arr hp)
      obtain ⟨xs, n, _, _, hl, hxs, hx⟩ := DataW.trod_struct hu h
      obtain ⟨y, h1, h2⟩ := ih.2 hp 0 fs.toList cs hff (fun f hf => by
        obtain ⟨i, hi⟩ := List.getElem?_of_mem hf
        have hi' : fs[i]? = some f := by rw [← Array.getElem?_toList]; exact hi
        have := hx i f hi'
        have hlt : i < xs.length := by rw [hxs]; exact (Array.getElem?_eq_some_iff.1 hi').1
        rw [List.getElem?_eq_getElem hlt] at this
        exact ⟨n, _, this⟩)
      refine ⟨y, fun p => ?_, h2⟩
      have := h1 (p ++ [0])
      rw [List.drop_zero, List.take_of_length_le (by rw [hl, hsz]; exact Nat.le_refl _)] at this
      exact this
    exact ⟨main, fun hp off fs cs hf => one _ main hp off fs cs hf⟩
  | pair a b iha ihb =>
    refine ⟨fun _ T fuel cs x hf => absurd hf id, fun hp off fs cs hf hfs => ?_⟩
    simp only [plainS, Bool.and_eq_true] at hp
    obtain ⟨f, fs', e, h1, h2, h3, h4⟩ := hf
    subst e
    obtain ⟨y1, g1, g2⟩ := one a iha.1 hp.1 off [f] cs ⟨f, rfl, h1, h2, h3⟩ (fun f' hf' => hfs f' (by simp at hf'; simp [hf']))
    obtain ⟨y2, g3, g4⟩ := ihb.2 hp.2 (off + size a) fs' cs h4 (fun f' hf' => hfs f' (by simp [hf']))
    refine ⟨(y1, y2), fun p => ⟨(cs.drop off).take (size a), (cs.drop (off + size a)).take (size b), ?_, g1 _, g3 _⟩, g2, g4⟩
    show (cs.drop off).take (size a + size b) = _
    rw [List.take_add, List.drop_drop]
theorem arg_val {s : S} {T : TypeId} {base : Nat} {v : Value} (hf : Fits P s T) (hp : plainS s = true) (h : Value.okWide P W .any base T v) : IsVal s v v.cells.toList ∧ SpotOk v.cells.toList := by
  have cell : ∀ {u : TypeId} {ad : Addr} {n c : Nat}, Cell.okWide P W .any base u (.slice (some ad) n c) → ad.spot = none := by
    intro u ad n c hc
    unfold Cell.okWide at hc
    split at hc
    all_goals first | (rename_i h1; cases h1; done) | (rename_i _ h1; cases h1; done) | skip
    unfold Cell.ok at hc
    split at hc
    all_goals first
      | (rename_i h1 h2; injection h2 with q1 q2 q3; injection q1 with q1; subst q1; exact hc.2.2.2.1)
      | (rename_i h1 h2; cases h2; done)
      | (rename_i h2; cases h2; done)
      | exact hc.elim
  cases s with
  | unit => simp [plainS] at hp
  | ptr s => simp [plainS] at hp
  | func a b => simp [plainS] at hp
  | map a b => simp [plainS] at hp
  | pair a b => exact absurd hf id
  | int k =>
    obtain ⟨n, rfl⟩ := okWide_int hf.1 h
    exact ⟨rfl, fun ad n c hm => by simp [Value.cells] at hm⟩
  | bool =>
    obtain ⟨n, rfl⟩ := okWide_bool hf.1 h
    exact ⟨rfl, fun ad n c hm => by simp [Value.cells] at hm⟩
  | str =>
    obtain ⟨n, rfl⟩ := okWide_string hf.1 h
    exact ⟨rfl, fun ad n c hm => by simp [Value.cells] at hm⟩
  | slice nl s =>
    obtain ⟨⟨e, hu, _⟩, _⟩ := hf
    have h' := h
    obtain ⟨a, len, cap, rfl⟩ := okWide_slice hu h
    refine ⟨rfl, fun ad n c hm => ?_⟩
    simp [Value.cells] at hm
    obtain ⟨rfl, rfl, rfl⟩ := hm
    unfold Value.okWide at h'
    rw [hu] at h'
    exact cell h'
  | agg s =>
    obtain ⟨fs, hu, _⟩ := hf.struct (plainS_arr hp)
    unfold Value.okWide at h
    rw [hu] at h
    obtain ⟨cs, rfl, _, ts, _, _, hc⟩ := h
    refine ⟨rfl, fun ad n c hm => ?_⟩
    obtain ⟨i, hi⟩ := List.getElem?_of_mem hm
    obtain ⟨u, _, hu2⟩ := hc i _ (by rw [← Array.getElem?_toList]; exact hi)
    exact cell hu2
end Go.Ev

noncomputable section
namespace Go.Ev
variable {P : Program}
theorem coer_self {R : Type} : ∀ (s : S) (x : El s) (K : El s → Option R), plainS s = true → coer s s x K = K x := by
  intro s
  induction s with
  | slice nl s _ =>
    intro x K hp
    simp only [coer]
    rw [dif_eq, dif_pos rfl]
    have : (nl && !nl) = false := by cases nl <;> rfl
    rw [this]
  | agg s ih => intro x K hp; simp only [coer]; exact ih x K hp
  | pair a b iha ihb =>
    intro x K hp
    simp only [plainS, Bool.and_eq_true] at hp
    simp only [coer]
    rw [iha x.1 _ hp.1, ihb x.2 _ hp.2]
  | int k => intro x K hp; simp [coer]
  | bool => intro x K hp; rfl
  | str => intro x K hp; rfl
  | _ => intro x K hp; simp [plainS] at hp
def plainPs : S → Bool
  | .unit => true
  | .pair a b => plainS a && plainPs b
  | _ => false
theorem packCo_self {R : Type} : ∀ (ps : S) (pm : List PM) (x : El ps) (K : El ps → Option R), plainPs ps = true → pm.length = nArgs ps → packCo ps (unp ps pm x) K = K x
  | .unit, pm, x, K, _, h => by cases x; simp [unp, packCo]
  | .pair a b, pm, x, K, hp, h => by
    simp only [plainPs, Bool.and_eq_true] at hp
    cases pm with
    | nil => simp [nArgs] at h
    | cons p pm =>
      simp only [unp, packCo]
      rw [coer_self a _ _ hp.1, packCo_self b pm x.2 _ hp.2 (by simpa [nArgs] using h)]
  | .int _, _, _, _, hp, _ => by simp [plainPs] at hp
  | .bool, _, _, _, hp, _ => by simp [plainPs] at hp
  | .str, _, _, _, hp, _ => by simp [plainPs] at hp
  | .slice _ _, _, _, _, hp, _ => by simp [plainPs] at hp
  | .agg _, _, _, _, hp, _ => by simp [plainPs] at hp
  | .ptr _, _, _, _, hp, _ => by simp [plainPs] at hp
  | .func _ _, _, _, _, hp, _ => by simp [plainPs] at hp
  | .map _ _, _, _, _, hp, _ => by simp [plainPs] at hp
def ArgRep (P : Program) (w : World) (s : S) (x : El s) (v : Value) : Prop := ∃ ds, (∀ p, Rep P s w allSh' none p .sh x ds) ∧ IsVal s v ds
def ArgsRep (P : Program) (w : World) : (ps : S) → El ps → List Value → Prop
  | .unit, _, vs => vs = []
  | .pair a b, x, vs => ∃ v vs', vs = v :: vs' ∧ ArgRep P w a x.1 v ∧ ArgsRep P w b x.2 vs'
  | _, _, _ => False
theorem argsRep_ok {w : World} : ∀ (ps : S) (x : El ps) (vs : List Value) (j : Nat), ArgsRep P w ps x vs → ArgsOk P w allSh' j (unp ps (shs (nArgs ps)) x) vs ∧ PMsOk (shs (nArgs ps)) (unp ps (shs (nArgs ps)) x)
  | .unit, x, vs, j, h => by
    have h : vs = [] := h
    subst h
    exact ⟨trivial, trivial⟩
  | .pair a b, x, vs, j, h => by
    obtain ⟨v, vs', rfl, ⟨ds, h1, h2⟩, h3⟩ := h
    have := argsRep_ok b x.2 vs' (j + 1) h3
    exact ⟨⟨⟨ds, h1 _, h2⟩, this.1⟩, rfl, this.2⟩
  | .int _, _, _, _, h => absurd h id
  | .bool, _, _, _, h => absurd h id
  | .str, _, _, _, h => absurd h id
  | .slice _ _, _, _, _, h => absurd h id
  | .agg _, _, _, _, h => absurd h id
  | .ptr _, _, _, _, h => absurd h id
  | .func _ _, _, _, _, h => absurd h id
  | .map _ _, _, _, _, h => absurd h id
theorem length_shs : ∀ n, (shs n).length = n
  | 0 => rfl
  | n + 1 => by simp [shs, length_shs n]
theorem law_calls {f : FuncId} {ps : S} {F : El ps → Option (Bool × Unit)} (hc : Contract P f (mkSem (shs (nArgs ps)) 1 .bool .sh .unit ps F)) (hp : plainPs ps = true) {w : World} {x : El ps} {args : Array Value} (ha : ArgsRep P w ps x args.toList) (hF : F x = some (true, ())) :
    Calls P f args w fun e w' => e = .returned (.bool true) ∧ Go.RowKit.Below w.heap.size w w' := by
  obtain ⟨h1, h2⟩ := argsRep_ok ps x args.toList 0 ha
  obtain ⟨y, l, hk, hcalls⟩ := hc w allSh' (unp ps (shs (nArgs ps)) x) args.toList h2 h1 Bool (fun y _ => some y) true (by
    show packCo ps (unp ps (shs (nArgs ps)) x) _ = some true
    rw [packCo_self ps _ x _ hp (length_shs _), hF]; rfl)
  have hy : y = true := by injection hk
  subst hy
  rw [Array.toArray_toList] at hcalls
  refine hcalls.mono ?_
  rintro e w' ⟨v, col', rfl, hr, _, hf⟩
  obtain ⟨cs, g1, g2⟩ := hr
  refine ⟨by rw [Rep.bool_val g1 (by simp) g2], hf.out.os, hf.out.tape, hf.out.output, hf.sz, fun b hb => hf.mem b hb (.inr rfl)⟩
end Go.Ev

noncomputable section
namespace Go.Ev
variable {P : Program}
structure InsRoads (P : Program) (f : FuncId) (E : TypeId) (z : Value) : Prop where
  z1 : z.cells.size = 1
  shift : ∀ (b off n c i vb voff m vc : Nat) (cs vs : List Value) (w : World), i < n → 0 < m → n + m ≤ c → n + m ≤ 9223372036854775807 → vb ≠ b → cs.length = n → vs.length = m →
    (∀ j v, cs[j]? = some v → w.cell? ⟨b, off + j, none⟩ = some v) → (∀ j, j < n + m → (w.cell? ⟨b, off + j, none⟩).isSome = true) → (∀ j, j < n + m → w.frozen? ⟨b, off + j, none⟩ = false) →
    (∀ j v, vs[j]? = some v → w.cell? ⟨vb, voff + j, none⟩ = some v) → (∀ v ∈ cs, v.oneCell' = true) → (∀ v ∈ vs, v.oneCell' = true) →
    ∀ (tA tB : TypeId) (kA kB : Nat), w.shape? vb = some (tA, kA) → w.shape? b = some (tB, kB) → kB ≠ 0 → w.frozen? ⟨vb, voff, none⟩ = false → w.frozen? ⟨vb, kA, none⟩ = false →
    Calls P f #[.slice (some ⟨b, off, none⟩) n c, .int .i64 i, .slice (some ⟨vb, voff, none⟩) m vc] w fun e w' =>
      e = .returned (.slice (some ⟨b, off, none⟩) (n + m) c) ∧ w' = (w.drew.setCells b (off + (i + m)) (cs.drop i)).setCells b (off + i) vs
  room : ∀ (b off n c vb voff m vc : Nat) (vs : List Value) (w : World), 0 < m → n + m ≤ c → n + m ≤ 9223372036854775807 → vs.length = m →
    (∀ j, j < m → (w.cell? ⟨b, off + n + j, none⟩).isSome = true) → (∀ j, j < m → w.frozen? ⟨b, off + n + j, none⟩ = false) → (∀ j v, vs[j]? = some v → w.cell? ⟨vb, voff + j, none⟩ = some v) → (∀ v ∈ vs, v.oneCell' = true) →
    Calls P f #[.slice (some ⟨b, off, none⟩) n c, .int .i64 n, .slice (some ⟨vb, voff, none⟩) m vc] w fun e w' =>
      e = .returned (.slice (some ⟨b, off, none⟩) (n + m) c) ∧ w' = w.setCells b (off + n) vs
  endGrow : ∀ (base : Option Addr) (n c vb voff m vc : Nat) (cs vs : List Value) (w : World), 0 < m → n ≤ c → c < n + m → (n + m) * 24 ≤ 140737488355328 → cs.length = n → vs.length = m → (base = none → n = 0) →
    (∀ a, base = some a → ∀ j v, cs[j]? = some v → w.cell? (a.add j) = some v) → (∀ j v, vs[j]? = some v → w.cell? ⟨vb, voff + j, none⟩ = some v) → (∀ v ∈ vs, v.oneCell' = true) →
    Calls P f #[.slice base n c, .int .i64 n, .slice (some ⟨vb, voff, none⟩) m vc] w fun e w' =>
      e = .returned (.slice (some ⟨w.heap.size, 0, none⟩) (n + m) (grownCap w (n + m) c E)) ∧
      w' = w.drew.alloc (.cells ((cs ++ vs).toArray ++ Builtin.zeroCells z.cells (grownCap w (n + m) c E - (n + m))) E)
  grow : ∀ (b off n c i vb voff m vc : Nat) (cs vs : List Value) (w : World), i < n → 0 < m → n ≤ c → c < n + m → (n + m) * 24 ≤ 140737488355328 → cs.length = n → vs.length = m →
    (∀ j v, cs[j]? = some v → w.cell? ⟨b, off + j, none⟩ = some v) → (∀ j v, vs[j]? = some v → w.cell? ⟨vb, voff + j, none⟩ = some v) → (∀ v ∈ cs, v.oneCell' = true) → (∀ v ∈ vs, v.oneCell' = true) →
    Calls P f #[.slice (some ⟨b, off, none⟩) n c, .int .i64 i, .slice (some ⟨vb, voff, none⟩) m vc] w fun e w' =>
      e = .returned (.slice (some ⟨w.heap.size, 0, none⟩) (n + m) (grownCap w (n + m) c E)) ∧
      w' = (((w.alloc (.cells ((cs.take i).toArray ++ Builtin.zeroCells z.cells (n + m - i) ++ Builtin.zeroCells z.cells (grownCap w (n + m) c E - (n + m))) E)).drew.setCells w.heap.size i vs).drew).setCells w.heap.size (i + m) (cs.drop i)
def Ones (P : Program) (w : World) (col : Col) (s : S) (xs : List (El s)) (L : List Value) : Prop := L.length = xs.length ∧ ∀ (j : Nat) (x : El s) (v : Value), xs[j]? = some x → L[j]? = some v → Rep P s w col none [] .sh x [v]
theorem Ones.append {w : World} {col : Col} {s : S} {xs ys : List (El s)} {L M : List Value} (h : Ones P w col s xs L) (h' : Ones P w col s ys M) : Ones P w col s (xs ++ ys) (L ++ M) := by
  refine ⟨by simp [h.1, h'.1], fun j x v hx hv => ?_⟩
  by_cases hj : j < xs.length
  · rw [List.getElem?_append_left hj] at hx
    rw [List.getElem?_append_left (by rw [h.1]; exact hj)] at hv
    exact h.2 j x v hx hv
  · rw [List.getElem?_append_right (by omega)] at hx
    rw [List.getElem?_append_right (by rw [h.1]; omega), h.1] at hv
    exact h'.2 _ x v hx hv
theorem Ones.take {w : World} {col : Col} {s : S} {xs : List (El s)} {L : List Value} (h : Ones P w col s xs L) (i : Nat) : Ones P w col s (xs.take i) (L.take i) := by
  refine ⟨by simp [h.1], fun j x v hx hv => ?_⟩
  rw [List.getElem?_take] at hx hv
  split at hx
  · rw [if_pos (by assumption)] at hv
    exact h.2 j x v hx hv
  · cases hx
theorem Ones.drop {w : World} {col : Col} {s : S} {xs : List (El s)} {L : List Value} (h : Ones P w col s xs L) (i : Nat) : Ones P w col s (xs.drop i) (L.drop i) := by
  refine ⟨by simp [h.1], fun j x v hx hv => ?_⟩
  rw [List.getElem?_drop] at hx hv
  exact h.2 _ x v hx hv
theorem ones_of {w : World} {col : Col} {p : List Nat} {s : S} (hs : size s = 1) {b off : Nat} : ∀ (xs : List (El s)) (k : Nat), (∀ i x, xs[i]? = some x → ∃ ds, At w b (off + (k + i) * size s) ds ∧ Rep P s w col none (p ++ [k + i]) .sh x ds) →
    ∃ L, (∀ j v, L[j]? = some v → w.cell? ⟨b, off + (k + j), none⟩ = some v) ∧ Ones P w col s xs L
  | [], k, _ => ⟨[], fun j v h => by simp at h, rfl, fun j x v h => by simp at h⟩
  | x :: xs, k, h => by
    obtain ⟨ds, h1, h2⟩ := h 0 x rfl
    obtain ⟨L, g1, g2, g3⟩ := ones_of hs xs (k + 1) fun i x hx => by
      have := h (i + 1) x hx
      rw [show k + (i + 1) = k + 1 + i by omega] at this
      exact this
    have hl := h2.len s
    rw [hs] at hl h1
    obtain ⟨v, rfl⟩ := List.length_eq_one_iff.1 hl
    refine ⟨v :: L, fun j u hu => ?_, by simp [g2], fun j y u hy hu => ?_⟩
    · cases j with
      | zero =>
        have hu : v = u := by simpa using hu
        subst hu
        have := h1 0 v rfl
        simpa using this
      | succ j =>
        have := g1 j u (by simpa using hu)
        rw [show k + (j + 1) = k + 1 + j by omega]; exact this
    · cases j with
      | zero =>
        have hy : x = y := by simpa using hy
        have hu : v = u := by simpa using hu
        subst hy hu
        exact Rep.path h2 rfl
      | succ j => exact g3 j y u (by simpa using hy) (by simpa using hu)
theorem heap_setCells (b t : Nat) {e : TypeId} {fz : Nat × Nat} : ∀ (vs : List Value) (o : Nat) (w : World) (arr : Array Value), w.heap[b]? = some (.cells arr e fz) → ∃ arr', (w.setCells b o vs).heap[b]? = some (.cells arr' e fz) ∧ arr'.size = arr.size
  | [], _, w, arr, h => ⟨arr, h, rfl⟩
  | v :: vs, o, w, arr, h => by
    have hb : (w.setCell ⟨b, o, none⟩ v).heap[b]? = some (.cells (arr.setIfInBounds o v) e fz) := by
      simp [World.setCell, Array.getElem?_modify, h]
    obtain ⟨arr', h1, h2⟩ := heap_setCells b t vs (o + 1) _ _ hb
    exact ⟨arr', h1, by rw [h2]; simp⟩
theorem size_setC (b : Nat) : ∀ (vs : List Value) (o : Nat) (w : World), (w.setCells b o vs).heap.size = w.heap.size
  | [], _, _ => rfl
  | v :: vs, o, w => by rw [World.setCells, size_setC b vs]; simp [World.setCell]
theorem out_setC (b : Nat) : ∀ (vs : List Value) (o : Nat) (w : World), Out w (w.setCells b o vs)
  | [], _, w => Out.refl w
  | v :: vs, o, w => (show Out w (w.setCell ⟨b, o, none⟩ v) from ⟨rfl, rfl, rfl⟩).trans (out_setC b vs (o + 1) _)
abbrev SII : S := .slice false (.slice false I)
def insF : El (.pair SII (.pair I (.pair SII .unit))) → Option (El SII × Unit) := fun x =>
  gd (0 ≤ x.2.1) <| gd (x.2.1 ≤ (x.1.length : Int)) <| gd (0 < x.2.2.1.length) <| gd ((x.1.length : Int) + (x.2.2.1.length : Int) ≤ LIM) <|
  some (x.1.take (Int.toNat x.2.1) ++ x.2.2.1 ++ x.1.drop (Int.toNat x.2.1), ())
theorem gd_iff {R : Type} {c : Prop} {k : Option R} {r : R} (h : gd c k = some r) : c ∧ k = some r := by
  unfold gd at h
  split at h
  · exact ⟨by assumption, h⟩
  · cases h
structure InsDone (w w' : World) (a0 : Option Addr) (L : List Value) (e : Ending) : Prop where
  ex : ∃ b off c, e = .returned (.slice (some ⟨b, off, none⟩) L.length c) ∧ At w' b off L ∧ OwnB w' b (off + c) ∧ L.length ≤ c ∧ ((∃ ad, a0 = some ad ∧ ad.block = b) ∨ w.heap.size ≤ b)
  mem : ∀ x, x < w.heap.size → (∀ ad, a0 = some ad → ad.block ≠ x) → w'.heap[x]? = w.heap[x]?
  sz : w.heap.size ≤ w'.heap.size
  out : Out w w'
theorem hA (w : World) (o : Obj) : (w.alloc o).heap = w.heap.push o := rfl
theorem hD (w : World) : w.drew.heap = w.heap := rfl
theorem cell_at {w : World} {b off : Nat} {arr : Array Value} {e : TypeId} {fz : Nat × Nat} (h : w.heap[b]? = some (.cells arr e fz)) (j : Nat) : w.cell? ⟨b, off + j, none⟩ = arr[off + j]? := by
  unfold World.cell?; simp only [h]; rfl
theorem ins_done {f : FuncId} {E : TypeId} {z : Value} (H : InsRoads P f E z) {w : World} {xa : Option Addr} {n c i : Nat} {vb voff m vc : Nat} {cs vs : List Value} (hi : i ≤ n) (hm : 0 < m) (hnc : n ≤ c) (hlim : (n : Int) + (m : Int) ≤ LIM) (hcl : cs.length = n) (hvl : vs.length = m)
    (hx : ∀ ad, xa = some ad → ad.spot = none ∧ OwnB w ad.block (ad.off + c) ∧ ad.block ≠ vb ∧ ∀ j v, cs[j]? = some v → w.cell? ⟨ad.block, ad.off + j, none⟩ = some v) (hnil : xa = none → n = 0 ∧ c = 0)
    (hvb : OwnB w vb (voff + vc)) (hmc : m ≤ vc) (hvs : ∀ j v, vs[j]? = some v → w.cell? ⟨vb, voff + j, none⟩ = some v) (h1c : ∀ v ∈ cs, v.oneCell' = true) (h1v : ∀ v ∈ vs, v.oneCell' = true) :
    Calls P f #[.slice xa n c, .int .i64 i, .slice (some ⟨vb, voff, none⟩) m vc] w fun e w' => InsDone w w' xa (cs.take i ++ vs ++ cs.drop i) e := by
  have hL : (cs.take i ++ vs ++ cs.drop i).length = n + m := by simp; omega
  unfold LIM at hlim
  obtain ⟨varr, ve, hvh, hvsz⟩ := hvb
  by_cases hin : i = n
  · subst hin
    have e1 : cs.take i = cs := List.take_of_length_le (by omega)
    have e2 : cs.drop i = [] := List.drop_eq_nil_of_le (by omega)
    rw [e1, e2, List.append_nil]
    rw [e1, e2, List.append_nil] at hL
    by_cases hr : i + m ≤ c
    · -- there is room
      cases xa with
      | none => have := hnil rfl; omega
      | some ad =>
        obtain ⟨hs, ⟨arr, e, hh, hsz⟩, hne, hc⟩ := hx ad rfl
        obtain ⟨b, off, sp⟩ := ad
        have hs : sp = none := hs
        subst hs
        have hsz : off + c ≤ arr.size := hsz
        have hsome : ∀ j, j < m → (w.cell? ⟨b, off + i + j, none⟩).isSome = true := fun j hj => by
          rw [cell_at hh, Array.getElem?_eq_getElem (by omega)]; rfl
        refine (H.room b off i c vb voff m vc vs w hm hr (by omega) hvl hsome (fun j hj => by unfold World.frozen?; simp only [hh]; simp) hvs h1v).mono fun e' w' ⟨he, hw⟩ => ?_
        subst hw
        obtain ⟨arr', g1, g2⟩ := heap_setCells b 0 vs (off + i) w arr hh
        refine ⟨⟨b, off, c, by rw [he, hL], ?_, ⟨arr', e, g1, by omega⟩, by omega, .inl ⟨_, rfl, rfl⟩⟩, fun x hx hn => World.heap_setCells_other w b (off + i) vs hx (fun e => hn _ rfl e.symm), by rw [size_setC]; exact Nat.le_refl _, out_setC b vs _ w⟩
        intro j v hj
        by_cases hjn : j < i
        · rw [List.getElem?_append_left (by omega)] at hj
          rw [World.cell?_setCells_out b vs _ w _ (fun _ _ => .inl (by show off + j < off + i; omega))]
          exact hc j v hj
        · rw [List.getElem?_append_right (by omega)] at hj
          have hjl : j - i < vs.length := by
            rcases Nat.lt_or_ge (j - i) vs.length with h | h
            · exact h
            · rw [hcl, List.getElem?_eq_none h] at hj; cases hj
          have := World.cell?_setCells_in b vs (off + i) w (fun t ht => by rw [Nat.add_assoc]; have := hsome t (by omega); rwa [Nat.add_assoc] at this) (j - i) hjl
          rw [show off + i + (j - i) = off + j by omega] at this
          rw [this, ← hj, hcl, List.getElem?_eq_getElem hjl]
    · refine (H.endGrow xa i c vb voff m vc cs vs w hm hnc (by omega) (by omega) hcl hvl (fun h => (hnil h).1) (fun a ha j v hj => ?_) hvs h1v).mono fun e' w' ⟨he, hw⟩ => ?_
      · obtain ⟨hs, _, _, hc⟩ := hx a ha
        rw [addr_add hs]
        exact hc j v hj
      · subst hw
        have hcap := grownCap_ge w (i + m) c E
        refine ⟨⟨w.heap.size, 0, _, by rw [he, hL], ?_, ⟨_, E, (by rw [hA, hD, Array.getElem?_push_size]), ?_⟩, by rw [hL]; exact hcap, .inr (Nat.le_refl _)⟩, fun x hx hn => ?_, by simp [hA, hD], ⟨rfl, rfl, rfl⟩⟩
        · intro j v hj
          have hjl : j < (cs ++ vs).length := by
            rcases Nat.lt_or_ge j (cs ++ vs).length with h | h
            · exact h
            · rw [List.getElem?_eq_none h] at hj; cases hj
          rw [cell_at (by rw [hA, hD, Array.getElem?_push_size]), Nat.zero_add, Array.getElem?_append_left (by simpa using hjl)]
          simpa using hj
        · simp only [Array.size_append, List.size_toArray, size_zeroCells, H.z1]; omega
        · simp [hA, hD, Array.getElem?_push, show x ≠ w.heap.size by omega]
  · have hi' : i < n := by omega
    cases xa with
    | none => have := hnil rfl; omega
    | some ad =>
      obtain ⟨hs, ⟨arr, e, hh, hsz⟩, hne, hc⟩ := hx ad rfl
      obtain ⟨b, off, sp⟩ := ad
      have hs : sp = none := hs
      subst hs
      have hsz : off + c ≤ arr.size := hsz
      have hbl : b < w.heap.size := (Array.getElem?_eq_some_iff.1 hh).1
      have htl : (cs.take i).length = i := by rw [List.length_take]; omega
      have hdl : (cs.drop i).length = n - i := by rw [List.length_drop, hcl]
      have parts : ∀ j v, (cs.take i ++ vs ++ cs.drop i)[j]? = some v → (j < i ∧ cs[j]? = some v) ∨ (i ≤ j ∧ j < i + m ∧ vs[j - i]? = some v) ∨ (i + m ≤ j ∧ j < n + m ∧ (cs.drop i)[j - (i + m)]? = some v) := fun j v hj => by
        by_cases h1 : j < i
        · rw [List.append_assoc, List.getElem?_append_left (by omega), List.getElem?_take_of_lt h1] at hj
          exact .inl ⟨h1, hj⟩
        · by_cases h2 : j < i + m
          · rw [List.append_assoc, List.getElem?_append_right (by omega), List.getElem?_append_left (by omega), htl] at hj
            exact .inr (.inl ⟨by omega, h2, hj⟩)
          · rw [List.append_assoc, List.getElem?_append_right (by omega), List.getElem?_append_right (by omega), htl, hvl] at hj
            have hjl : j - i - m < (cs.drop i).length := by
              rcases Nat.lt_or_ge (j - i - m) (cs.drop i).length with h | h
              · exact h
              · rw [List.getElem?_eq_none h] at hj; cases hj
            exact .inr (.inr ⟨by omega, by omega, by rw [← hj]; congr 1; omega⟩)
      have lt_of : ∀ {l : List Value} {j : Nat} {v : Value}, l[j]? = some v → j < l.length := fun {l j v} h => (List.getElem?_eq_some_iff.1 h).1
      by_cases hr : n + m ≤ c
      · have hsome : ∀ j, j < n + m → (w.cell? ⟨b, off + j, none⟩).isSome = true := fun j hj => by
          rw [cell_at hh, Array.getElem?_eq_getElem (by omega)]; rfl
        refine (H.shift b off n c i vb voff m vc cs vs w hi' hm hr (by omega) (fun e => hne e.symm) hcl hvl hc hsome (fun j hj => by unfold World.frozen?; simp only [hh]; simp) hvs h1c h1v ve e varr.size arr.size
          (by unfold World.shape?; simp only [hvh]) (by unfold World.shape?; simp only [hh]) (by omega) (by unfold World.frozen?; simp only [hvh]; simp) (by unfold World.frozen?; simp only [hvh]; simp)).mono fun e' w' ⟨he, hw⟩ => ?_
        obtain ⟨arr1, g1, g2⟩ := heap_setCells b 0 (cs.drop i) (off + (i + m)) w.drew arr hh
        obtain ⟨arr2, g3, g4⟩ := heap_setCells b 0 vs (off + i) _ arr1 g1
        have hsome1 : ∀ j, j < n + m → ((w.drew.setCells b (off + (i + m)) (cs.drop i)).cell? ⟨b, off + j, none⟩).isSome = true := fun j hj => by
          rw [cell_at g1, Array.getElem?_eq_getElem (by omega)]; rfl
        rw [← hw] at g3
        refine ⟨⟨b, off, c, by rw [he, hL], ?_, ⟨arr2, e, g3, by omega⟩, by omega, .inl ⟨_, rfl, rfl⟩⟩, fun x hx hn => ?_, by rw [hw, size_setC, size_setC]; exact Nat.le_refl _, by rw [hw]; exact (show Out w (w.drew.setCells b (off + (i + m)) (cs.drop i)) from (show Out w w.drew from ⟨rfl, rfl, rfl⟩).trans (out_setC _ _ _ _)).trans (out_setC _ _ _ _)⟩
        · intro j v hj
          rw [hw]
          rcases parts j v hj with ⟨h1, h2⟩ | ⟨h1, h2, h3⟩ | ⟨h1, h2, h3⟩
          · rw [World.cell?_setCells_out b vs _ _ _ (fun _ _ => .inl (by show off + j < off + i; omega)), World.cell?_setCells_out b _ _ _ _ (fun _ _ => .inl (by show off + j < off + (i + m); omega))]
            exact hc j v h2
          · have := World.cell?_setCells_in b vs (off + i) _ (fun t ht => by rw [Nat.add_assoc]; exact hsome1 _ (by omega)) (j - i) (lt_of h3)
            rw [show off + i + (j - i) = off + j by omega] at this
            rw [this, ← h3, List.getElem?_eq_getElem (lt_of h3)]
          · rw [World.cell?_setCells_out b vs _ _ _ (fun _ _ => .inr (by show off + i + vs.length ≤ off + j; omega))]
            have := World.cell?_setCells_in b (cs.drop i) (off + (i + m)) w.drew (fun t ht => by rw [Nat.add_assoc]; exact hsome _ (by omega)) (j - (i + m)) (lt_of h3)
            rw [show off + (i + m) + (j - (i + m)) = off + j by omega] at this
            rw [this, ← h3, List.getElem?_eq_getElem (lt_of h3)]
        · have hxb : x ≠ b := fun e => hn _ rfl e.symm
          rw [hw, World.heap_setCells_other _ _ _ _ (by rw [size_setC]; exact hx) hxb, World.heap_setCells_other w.drew _ _ _ hx hxb]; rfl
      · have hcap := grownCap_ge w (n + m) c E
        refine (H.grow b off n c i vb voff m vc cs vs w hi' hm hnc (by omega) (by omega) hcl hvl hc hvs h1c h1v).mono fun e' w' ⟨he, hw⟩ => ?_
        generalize hG : grownCap w (n + m) c E = G at *
        generalize hROW : (cs.take i).toArray ++ Builtin.zeroCells z.cells (n + m - i) ++ Builtin.zeroCells z.cells (G - (n + m)) = ROW at hw
        have hRs : ROW.size = G := by
          rw [← hROW]
          simp only [Array.size_append, List.size_toArray, size_zeroCells, H.z1, htl]; omega
        have hR0 : ∀ j, j < i → ROW[j]? = cs[j]? := fun j hj => by
          rw [← hROW, Array.append_assoc, Array.getElem?_append_left (by simp; omega)]
          simp [hj]
        have h0 : (w.alloc (.cells ROW E)).drew.heap[w.heap.size]? = some (.cells ROW E (0, 0)) := by simp [hA, hD]
        have hz0 : ∀ j, (w.alloc (.cells ROW E)).drew.cell? ⟨w.heap.size, j, none⟩ = ROW[j]? := fun j => by
          have := cell_at (off := 0) h0 j
          rwa [Nat.zero_add] at this
        obtain ⟨arr1, g1, g2⟩ := heap_setCells w.heap.size 0 vs i _ ROW h0
        have g1' : ((w.alloc (.cells ROW E)).drew.setCells w.heap.size i vs).drew.heap[w.heap.size]? = some (.cells arr1 E (0, 0)) := g1
        obtain ⟨arr2, g3, g4⟩ := heap_setCells w.heap.size 0 (cs.drop i) (i + m) _ arr1 g1'
        have hz1 : ∀ j, j < n + m → (((w.alloc (.cells ROW E)).drew.setCells w.heap.size i vs).drew.cell? ⟨w.heap.size, j, none⟩).isSome = true := fun j hj => by
          have := cell_at (off := 0) g1' j
          rw [Nat.zero_add] at this
          rw [this, Array.getElem?_eq_getElem (by omega)]; rfl
        have hzin : ∀ j, j < vs.length → ((w.alloc (.cells ROW E)).drew.cell? ⟨w.heap.size, i + j, none⟩).isSome = true := fun j hj => by
          rw [hz0, Array.getElem?_eq_getElem (by omega)]; rfl
        rw [← hw] at g3
        have hsz' : w'.heap.size = w.heap.size + 1 := by rw [hw, size_setC]; show ((w.alloc (.cells ROW E)).drew.setCells w.heap.size i vs).heap.size = _; rw [size_setC]; simp [hA, hD]
        refine ⟨⟨w.heap.size, 0, G, by rw [he, hL], ?_, ⟨arr2, E, g3, by omega⟩, by omega, .inr (Nat.le_refl _)⟩, fun x hx hn => ?_, by omega, by
          rw [hw]
          have o1 : Out w (w.alloc (.cells ROW E)).drew := ⟨rfl, rfl, rfl⟩
          have o2 := o1.trans (out_setC w.heap.size vs i _)
          have o3 : Out w (((w.alloc (.cells ROW E)).drew.setCells w.heap.size i vs).drew) := o2.trans ⟨rfl, rfl, rfl⟩
          exact o3.trans (out_setC _ _ _ _)⟩
        · intro j v hj
          rw [hw, Nat.zero_add]
          rcases parts j v hj with ⟨h1, h2⟩ | ⟨h1, h2, h3⟩ | ⟨h1, h2, h3⟩
          · rw [World.cell?_setCells_out _ _ _ _ _ (fun _ _ => .inl (by show j < i + m; omega))]
            show ((w.alloc (.cells ROW E)).drew.setCells w.heap.size i vs).cell? _ = _
            rw [World.cell?_setCells_out _ _ _ _ _ (fun _ _ => .inl (by show j < i; omega)), hz0, hR0 j h1]
            exact h2
          · rw [World.cell?_setCells_out _ _ _ _ _ (fun _ _ => .inl (by show j < i + m; omega))]
            show ((w.alloc (.cells ROW E)).drew.setCells w.heap.size i vs).cell? _ = _
            have := World.cell?_setCells_in w.heap.size vs i _ hzin (j - i) (lt_of h3)
            rw [show i + (j - i) = j by omega] at this
            rw [this, ← h3, List.getElem?_eq_getElem (lt_of h3)]
          · have := World.cell?_setCells_in w.heap.size (cs.drop i) (i + m) _ (fun t ht => hz1 _ (by omega)) (j - (i + m)) (lt_of h3)
            rw [show i + m + (j - (i + m)) = j by omega] at this
            rw [this, ← h3, List.getElem?_eq_getElem (lt_of h3)]
        · have hxb : x ≠ w.heap.size := by omega
          rw [hw, World.heap_setCells_other _ _ _ _ (by show x < ((w.alloc (.cells ROW E)).drew.setCells w.heap.size i vs).heap.size; rw [size_setC]; simp [hA, hD]; omega) hxb]
          show ((w.alloc (.cells ROW E)).drew.setCells w.heap.size i vs).heap[x]? = _
          rw [World.heap_setCells_other _ _ _ _ (by simp [hA, hD]; omega) hxb]
          simp [hA, hD, Array.getElem?_push, hxb]
theorem insert_contract {f : FuncId} {E : TypeId} {z : Value} (H : InsRoads P f E z) : Contract P f (mkSem [.move (.ow .sh), .sh, .move (.ow .sh)] 1 SII (.ow .sh) .unit (.pair SII (.pair I (.pair SII .unit))) insF) := by
  intro w col cs vs hPM hA R K res hk
  obtain ⟨x, hx, h1, h2⟩ := packCo_ok _ _ cs vs 0 hPM hA hk
  obtain ⟨xs, i, ys, ⟨⟩⟩ := x
  simp only [Option.bind_eq_some_iff] at hx
  obtain ⟨y, hy, hx⟩ := hx
  unfold insF at hy
  obtain ⟨g1, hy⟩ := gd_iff hy
  obtain ⟨g2, hy⟩ := gd_iff hy
  obtain ⟨g3, hy⟩ := gd_iff hy
  obtain ⟨g4, hy⟩ := gd_iff hy
  dsimp only at g1 g2 g3 g4
  injection hy with hy
  subst hy
  match vs, h2 with
  | [v0, v1, v2], h2 =>
  obtain ⟨⟨ds0, r0, e0⟩, ⟨ds1, r1, e1⟩, ⟨ds2, r2, e2⟩, _⟩ := h2
  refine ⟨_, (), hx, ?_⟩
  obtain ⟨a0, c0, rfl, _, k1, k2, k3, k4⟩ := Rep.slice_val r0 (by simp) e0
  obtain ⟨a2, c2, rfl, _, l1, l2, l3, l4⟩ := Rep.slice_val r2 (by simp) e2
  have hv1 : v1 = .int .i64 i := by
    have a : ds1 = [.int .i64 i] := r1
    have b : ds1 = [v1] := e1
    rw [a] at b; injection b with b; exact b.symm
  subst hv1
  have g1 : (0 : Int) ≤ i := g1
  obtain ⟨i, rfl⟩ : ∃ n : Nat, i = (n : Int) := ⟨Int.toNat i, (Int.toNat_of_nonneg g1).symm⟩
  have k1 : xs.length ≤ c0 := k1
  have l1 : ys.length ≤ c2 := l1
  obtain ⟨ad2, rfl⟩ : ∃ ad, a2 = some ad := by
    cases a2 with
    | none => have : ys = [] := (l3 rfl).1; subst this; simp at g3
    | some ad => exact ⟨ad, rfl⟩
  obtain ⟨m1, m2, _, m4⟩ := l4 ad2 rfl
  obtain ⟨hc2, ho2⟩ := m2 rfl
  have hsz1 : size (.slice false I) = 1 := rfl
  obtain ⟨Ly, hly, oy⟩ := ones_of (P := P) (w := w) (col := col) (p := [2]) (s := .slice false I) rfl (b := ad2.block) (off := ad2.off) ys 0 (fun j x hj => by
    obtain ⟨ds, q1, q2⟩ := m4 j x hj
    exact ⟨ds, by rw [Nat.zero_add]; exact q1, by rw [Nat.zero_add]; exact q2⟩)
  obtain ⟨Lx, hlx, ox⟩ : ∃ L, (∀ ad, a0 = some ad → ∀ j v, L[j]? = some v → w.cell? ⟨ad.block, ad.off + j, none⟩ = some v) ∧ Ones P w col (.slice false I) xs L := by
    cases a0 with
    | none =>
      have : xs = [] := (k3 rfl).1
      subst this
      exact ⟨[], (fun ad h => by cases h), rfl, fun j x v h => by simp at h⟩
    | some ad =>
      obtain ⟨L, q1, q2⟩ := ones_of (P := P) (w := w) (col := col) (p := [0]) (s := .slice false I) rfl (b := ad.block) (off := ad.off) xs 0 (fun j x hj => by
        obtain ⟨ds, q1, q2⟩ := (k4 ad rfl).2.2.2 j x hj
        exact ⟨ds, by rw [Nat.zero_add]; exact q1, by rw [Nat.zero_add]; exact q2⟩)
      exact ⟨L, fun ad' h => by injection h with h; subst h; intro j v hj; have := q1 j v hj; rwa [Nat.zero_add] at this, q2⟩
  have one : ∀ {L : List Value} {zs : List (El (.slice false I))}, Ones P w col (.slice false I) zs L → ∀ v ∈ L, v.oneCell' = true := fun {L zs} h v hv => by
    obtain ⟨j, hj⟩ := List.mem_iff_getElem?.1 hv
    have hjl : j < L.length := (List.getElem?_eq_some_iff.1 hj).1
    have := h.2 j _ v (List.getElem?_eq_getElem (by rw [← h.1]; exact hjl)) hj
    exact this.oneCell _ v (by simp)
  have hne : ∀ ad, a0 = some ad → col ad.block = some [0] := fun ad h => ((k4 ad h).2.1 rfl).1
  obtain ⟨b2, o2, sp2⟩ := ad2
  have hsp2 : sp2 = none := m1 (.inr rfl)
  subst hsp2
  have g2 : (i : Int) ≤ (xs.length : Int) := g2
  have hi : i ≤ xs.length := by omega
  have hdone := ins_done (w := w) (xa := a0) (n := xs.length) (c := c0) (i := i) (vb := b2) (voff := o2) (m := ys.length) (vc := c2) (cs := Lx) (vs := Ly) H hi g3 k1 g4 ox.1 oy.1
    (fun ad h => by
      obtain ⟨p1, p2, _, p4⟩ := k4 ad h
      obtain ⟨p5, p6⟩ := p2 rfl
      have p6 : OwnB w ad.block (ad.off + c0 * 1) := p6
      rw [Nat.mul_one] at p6
      exact ⟨p1 (.inr rfl), p6, (fun e => by rw [e, hc2] at p5; cases p5), hlx ad h⟩)
    (fun h => by obtain ⟨p1, p2⟩ := k3 h; subst p1; exact ⟨rfl, p2⟩)
    (by have ho2 : OwnB w b2 (o2 + c2 * 1) := ho2; rwa [Nat.mul_one] at ho2) l1 (fun j v hj => by have := hly j v hj; rwa [Nat.zero_add] at this) (one ox) (one oy)
  refine hdone.mono fun e w' D => ?_
  obtain ⟨⟨b, off, c, he, hat, hown, hlen, hb⟩, hmem, hsz, hout⟩ := D
  have ol : Ones P w col (.slice false I) (xs.take i ++ ys ++ xs.drop i) (Lx.take i ++ Ly ++ Lx.drop i) := ((ox.take i).append oy).append (ox.drop i)
  rw [ol.1] at he hlen
  have quiet : ∀ x, x < w.heap.size → Quiet (col x) → w'.heap[x]? = w.heap[x]? := fun x hx hq => hmem x hx fun ad ha e => by
    subst e
    rw [hne ad ha] at hq
    rcases hq with h | h <;> cases h
  have hbq : ∀ x, x < w.heap.size → Quiet (col x) → x ≠ b := fun x hx hq e => by
    subst e
    rcases hb with ⟨ad, ha, e⟩ | h
    · rw [← e, hne ad ha] at hq
      rcases hq with h | h <;> cases h
    · omega
  refine ⟨_, fun x => if x = b then some [3] else col x, he, ?_, trivial, ⟨hsz, quiet, fun x hx hq => if_neg (hbq x hx hq), hout⟩⟩
  show ∃ cs, Rep P SII w' _ none [3] (.ow .sh) _ cs ∧ IsVal SII _ cs
  refine ⟨_, ⟨some ⟨b, off, none⟩, c, rfl, hlen, (fun h => by cases h), (fun h => by cases h), fun ad h => ?_⟩, rfl⟩
  injection h with h
  subst h
  refine ⟨fun _ => rfl, fun _ => ⟨if_pos rfl, by show OwnB w' b (off + c * 1); rwa [Nat.mul_one]⟩, (fun h => by cases h), fun j x hj => ?_⟩
  have hjl : j < (Lx.take i ++ Ly ++ Lx.drop i).length := by rw [ol.1]; exact (List.getElem?_eq_some_iff.1 hj).1
  have hj' := List.getElem?_eq_getElem hjl
  have hj : (xs.take i ++ ys ++ xs.drop i)[j]? = some x := hj
  refine ⟨[(Lx.take i ++ Ly ++ Lx.drop i)[j]], ?_, ?_⟩
  rotate_left
  · refine Rep.path (p := []) (Rep.stay (ol.2 j x _ hj hj') ⟨fun b' q _ _ ho => ?_, fun b' hb' hc => ?_, fun b' hb' hc => ?_, hsz⟩) rfl
    · rw [ownAt_noOwn _ q rfl] at ho; cases ho
    · show (if b' = b then some [3] else col b') = _
      rw [if_neg (hbq b' hb' (.inr hc))]; exact hc
    · rcases hc with hc | ⟨q, _, ho⟩
      · exact quiet b' hb' (.inr hc)
      · rw [ownAt_noOwn _ q rfl] at ho; cases ho
  · intro t v ht
    have : t = 0 ∧ v = (Lx.take i ++ Ly ++ Lx.drop i)[j] := by
      cases t with
      | zero => exact ⟨rfl, by simpa using ht.symm⟩
      | succ t => simp at ht
    obtain ⟨rfl, rfl⟩ := this
    show w'.cell? ⟨b, off + j * 1 + 0, none⟩ = _
    rw [Nat.mul_one, Nat.add_zero]
    exact hat j _ hj'
end Go.Ev

noncomputable section
namespace Go.Ev
open Go.Sort
variable {P : Program}
abbrev SI : S := .slice false I
theorem rep_ints {w : World} {col : Col} {j b off c n : Nat} {ys : List Int} (hb : col b = some [j]) (ho : OwnB w b (off + c)) (hc : ys.length ≤ c) (hn : n = ys.length) (hy : ∀ i, (h : i < ys.length) → w.cell? ⟨b, off + i, none⟩ = some (.int .i64 ys[i])) :
    Rep P SI w col none [j] (.ow .sh) ys [.slice (some ⟨b, off, none⟩) n c] := by
  subst hn
  refine ⟨some ⟨b, off, none⟩, c, rfl, hc, (fun h => by cases h), (fun h => by cases h), fun ad h => ?_⟩
  injection h with h
  subst h
  refine ⟨fun _ => rfl, fun _ => ⟨hb, by show OwnB w b (off + c * 1); rwa [Nat.mul_one]⟩, (fun h => by cases h), fun i x hi => ?_⟩
  have hil : i < ys.length := (List.getElem?_eq_some_iff.1 hi).1
  rw [List.getElem?_eq_getElem hil] at hi
  injection hi with hi
  subst hi
  refine ⟨[.int .i64 ys[i]], fun t v ht => ?_, rfl⟩
  have : t = 0 ∧ v = .int .i64 ys[i] := by
    cases t with
    | zero => exact ⟨rfl, by simpa using ht.symm⟩
    | succ t => simp at ht
  obtain ⟨rfl, rfl⟩ := this
  show w.cell? ⟨b, off + i * 1 + 0, none⟩ = _
  rw [Nat.mul_one, Nat.add_zero]
  exact hy i hil
structure SortRoads (P : Program) (f : FuncId) : Prop where
  some : ∀ (blk off cap : Nat) (zs : List Int) (w : World), Holds (Value.int .i64) w blk off zs.toArray → blk < w.heap.size → zs.length < 4611686018427387904 →
    Calls P f #[.slice (Option.some ⟨blk, off, none⟩) zs.length cap] w fun e w' => e = .returned (.tuple #[]) ∧ ∃ n os, w' = grow (putRow (Value.int .i64) (Go.Sort.ahead w n) blk off (zs.mergeSort fun x y => decide (x ≤ y)).toArray) os
  none : ∀ (p : Option Addr) (cap : Nat) (w : World), Calls P f #[.slice p 0 cap] w fun e w' => e = .returned (.tuple #[]) ∧ w' = w
def sortF : El (.pair SI .unit) → Option (Unit × El SI) := fun x => gd ((x.1.length : Int) ≤ LIM) <| some ((), List.mergeSort (α := Int) x.1 fun x y => decide (x ≤ y))
structure CompactRoads (P : Program) (f : FuncId) : Prop where
  some : ∀ (blk off cap : Nat) (zs : List Int) (w : World), Holds (Value.int .i64) w blk off zs.toArray → zs.length ≤ 9223372036854775807 → zs.length ≤ cap →
    Calls P f #[.slice (Option.some ⟨blk, off, none⟩) zs.length cap] w fun e w' => e = .returned (.slice (Option.some ⟨blk, off, none⟩) (Lib.compact zs).length cap) ∧ ∃ q, w' = putRow (Value.int .i64) (Go.Sort.ahead w q) blk off (Lib.compact zs ++ List.replicate (zs.length - (Lib.compact zs).length) 0).toArray
  none : ∀ (p : Option Addr) (cap : Nat) (w : World), Calls P f #[.slice p 0 cap] w fun e w' => e = .returned (.slice p 0 cap) ∧ w' = w
def compactF : El (.pair SI .unit) → Option (El SI × Unit) := fun x => gd ((x.1.length : Int) ≤ LIM) <| some (Lib.compact (α := Int) x.1, ())
theorem compact_len (xs : List Int) : (Lib.compact xs).length ≤ xs.length := by
  unfold Lib.compact Lib.compactUpTo
  rw [List.length_map]
  have := List.length_filter_le (Lib.keeps xs.toArray) (List.range xs.length)
  simpa using this
structure CloneRoads (P : Program) (f : FuncId) : Prop where
  some : ∀ (b off n c : Nat) (zs : List Int) (w : World), n ≤ zs.length → n * 8 ≤ 140737488355328 → (∀ j, j < zs.length → w.cell? ⟨b, off + j, Option.none⟩ = Option.some (.int .i64 (zs.getD j 0))) →
    Calls P f #[.slice (Option.some ⟨b, off, Option.none⟩) n c] w fun e w' => ∃ v' t, e = .returned v' ∧ w'.ownsRow w.heap.size t 1 v' n ((zs.take n).map (Value.int .i64)) ∧ Go.RowKit.Below w.heap.size w w'
  zero : ∀ (a : Addr) (c : Nat) (w : World), Calls P f #[.slice (Option.some a) 0 c] w fun e w' => ∃ v' t, e = .returned v' ∧ w'.ownsRow w.heap.size t 1 v' 0 [] ∧ Go.RowKit.Below w.heap.size w w'
  none : ∀ (n c : Nat) (w : World), Calls P f #[.slice Option.none n c] w fun e w' => e = .returned (.slice Option.none 0 0) ∧ w' = w
def cloneF : El (.pair SI .unit) → Option (El SI × Unit) := fun x => gd ((x.1.length : Int) ≤ LIM) <| some (x.1, ())
theorem rep_new {w w' : World} {col : Col} {t : TypeId} {v : Value} {ys : List Int} (h : w'.ownsRow w.heap.size t 1 v ys.length (ys.map (Value.int .i64))) :
    ∃ col' ds, (∀ b, b < w.heap.size → col' b = col b) ∧ Rep P SI w' col' none [1] (.ow .sh) ys ds ∧ IsVal SI v ds := by
  obtain ⟨h1, ⟨rfl, h2⟩ | ⟨g, cap, cur, rfl, hg, hh, hn, hc, hs, ht⟩⟩ := h
  · have : ys = [] := List.length_eq_zero_iff.1 h2
    subst this
    exact ⟨col, _, fun _ _ => rfl, Rep_nil false I w' col [1] _, rfl⟩
  · refine ⟨fun b => if b = g then some [1] else col b, _, fun b hb => if_neg (by omega), rep_ints (j := 1) (b := g) (off := 0) (c := cap) (ys := ys) (if_pos rfl) ⟨cur, t, hh, by omega⟩ hn rfl (fun i hi => ?_), rfl⟩
    have h3 : (cur.toList.take (ys.length * 1))[i]? = (ys.map (Value.int .i64))[i]? := by rw [ht]
    rw [Nat.mul_one, List.getElem?_take_of_lt hi, List.getElem?_map, List.getElem?_eq_getElem hi, Option.map_some, Array.getElem?_toList] at h3
    unfold World.cell?
    rw [hh]
    simpa using h3
theorem clone_contract {f : FuncId} (H : CloneRoads P f) : Contract P f (mkSem [.sh] 1 SI (.ow .sh) .unit (.pair SI .unit) cloneF) := by
  intro w col cs vs hPM hA R K res hk
  obtain ⟨x, hx, h1, h2⟩ := packCo_ok _ _ cs vs 0 hPM hA hk
  obtain ⟨xs, ⟨⟩⟩ := x
  simp only [Option.bind_eq_some_iff] at hx
  obtain ⟨y, hy, hx⟩ := hx
  unfold cloneF at hy
  obtain ⟨g1, hy⟩ := gd_iff hy
  injection hy with hy
  subst hy
  match vs, h2 with
  | [v0], h2 =>
  obtain ⟨⟨ds0, r0, e0⟩, _⟩ := h2
  refine ⟨_, (), hx, ?_⟩
  have g1 : ((xs : List Int).length : Int) ≤ LIM := g1
  unfold LIM at g1
  obtain ⟨a0, c0, rfl, _, k1, k2, k3, k4⟩ := Rep.slice_val r0 (by simp) e0
  have k1 : (xs : List Int).length ≤ c0 := k1
  have fin_ : ∀ (e : Ending) (w' : World), (∃ v' t, e = .returned v' ∧ w'.ownsRow w.heap.size t 1 v' (xs : List Int).length ((xs : List Int).map (Value.int .i64)) ∧ Go.RowKit.Below w.heap.size w w') → Post P (mkSem [.sh] 1 SI (.ow .sh) .unit (.pair SI .unit) cloneF) w col [.slice a0 (xs : List Int).length c0] xs () e w' := by
    intro e w' ⟨v', t, he, hrow, hb⟩
    obtain ⟨col', ds, q1, q2, q3⟩ := rep_new (P := P) (col := col) hrow
    exact ⟨_, col', he, ⟨ds, q2, q3⟩, trivial, ⟨hb.size, fun x hx _ => hb.block x hx, fun b hb' _ => q1 b hb', ⟨hb.os, hb.tape, hb.output⟩⟩⟩
  cases a0 with
  | none =>
    obtain ⟨hx0, hc0⟩ := k3 rfl
    have hx0 : (xs : List Int) = [] := hx0
    refine (H.none (xs : List Int).length c0 w).mono fun e' w' ⟨he, hw⟩ => ?_
    subst hw
    exact ⟨_, col, he, ⟨[.slice none 0 0], (by rw [hx0]; exact Rep_nil false I _ col [1] _), rfl⟩, trivial, ⟨Nat.le_refl _, fun _ _ _ => rfl, fun _ _ _ => rfl, Out.refl _⟩⟩
  | some ad =>
    obtain ⟨p1, p2, _, p4⟩ := k4 ad rfl
    by_cases h0 : (xs : List Int) = []
    · have hl : (xs : List Int).length = 0 := by rw [h0]; rfl
      refine Calls.mono (P := P) ?_ fun e' w' h => fin_ e' w' h
      have := H.zero ad c0 w
      show Calls P f #[.slice (some ad) (xs : List Int).length c0] w _
      rw [hl, h0]
      exact this
    · obtain ⟨b, off, sp⟩ := ad
      have hs : sp = none := p1 (.inl (fun e => h0 (List.length_eq_zero_iff.1 (by omega))))
      subst hs
      refine Calls.mono (P := P) (H.some b off (xs : List Int).length c0 xs w (Nat.le_refl _) (by omega) fun j hj => ?_) fun e' w' h => fin_ e' w' ?_
      · obtain ⟨ds, q1, q2⟩ := p4 j _ (List.getElem?_eq_getElem hj)
        have q2 : ds = [.int .i64 (xs : List Int)[j]] := q2
        subst q2
        have q := q1 0 _ rfl
        have e : (off + j * 1 + 0) = off + j := by omega
        have q : w.cell? ⟨b, off + j * 1 + 0, none⟩ = some (.int .i64 (xs : List Int)[j]) := q
        rw [e] at q
        rw [q, List.getD_eq_getElem?_getD, List.getElem?_eq_getElem hj]; rfl
      · rw [List.take_length] at h
        exact h
structure Fill (w wr : World) (m n : Nat) (E : TypeId) (x : Value) : Prop where
  sz : wr.heap.size = w.heap.size + 1
  old : ∀ k, k < w.heap.size → wr.heap[k]? = w.heap[k]?
  new : ∃ arr, wr.heap[w.heap.size]? = some (.cells arr E (0, 0)) ∧ arr.size = m ∧ ∀ j, j < n → arr[j]? = some x
  out : Out w wr
theorem Fill.cell {w wr : World} {m n : Nat} {E : TypeId} {x : Value} (F : Fill w wr m n E x) {j : Nat} (h : j < n) : wr.cell? ⟨w.heap.size, j, none⟩ = some x := by
  obtain ⟨arr, h1, h2, h3⟩ := F.new
  unfold World.cell?; simp only [h1]; exact h3 j h
theorem Fill.is {w wr : World} {m n : Nat} {E : TypeId} {x : Value} (F : Fill w wr m n E x) {j : Nat} (h : j < m) : (wr.cell? ⟨w.heap.size, j, none⟩).isSome = true := by
  obtain ⟨arr, h1, h2, h3⟩ := F.new
  unfold World.cell?; simp only [h1]
  rw [Array.getElem?_eq_getElem (by omega)]; rfl
theorem Fill.fz {w wr : World} {m n : Nat} {E : TypeId} {x : Value} (F : Fill w wr m n E x) (j : Nat) : wr.frozen? ⟨w.heap.size, j, none⟩ = false := by
  obtain ⟨arr, h1, h2, h3⟩ := F.new
  unfold World.frozen?; simp only [h1]; simp
theorem heap_setC (b : Nat) {e : TypeId} {fz : Nat × Nat} : ∀ (vs : List Value) (o : Nat) (w : World) (arr : Array Value), w.heap[b]? = some (.cells arr e fz) → ∃ arr', (w.setCells b o vs).heap[b]? = some (.cells arr' e fz) ∧ arr'.size = arr.size ∧ (∀ k, k ≠ b → (w.setCells b o vs).heap[k]? = w.heap[k]?) ∧ ∀ j, j < arr.size → arr'[j]? = if o ≤ j ∧ j < o + vs.length then vs[j - o]? else arr[j]?
  | [], o, w, arr, h => ⟨arr, h, rfl, fun _ _ => rfl, fun j hj => by rw [if_neg (by simp)]⟩
  | v :: vs, o, w, arr, h => by
    have hb : (w.setCell ⟨b, o, none⟩ v).heap[b]? = some (.cells (arr.setIfInBounds o v) e fz) := by
      simp [World.setCell, Array.getElem?_modify, h]
    obtain ⟨arr', h1, h2, h3, h4⟩ := heap_setC b vs (o + 1) _ _ hb
    refine ⟨arr', h1, by rw [h2]; simp, fun k hk => ?_, fun j hj => ?_⟩
    · rw [World.setCells, h3 k hk]
      simp [World.setCell, Array.getElem?_modify, Ne.symm hk]
    · rw [h4 j (by simpa using hj)]
      by_cases h0 : j = o
      · subst h0
        rw [if_neg (by omega), if_pos (by simp)]
        simp [hj]
      · by_cases h1 : o + 1 ≤ j ∧ j < o + 1 + vs.length
        · rw [if_pos h1, if_pos (by simp; omega), show j - o = (j - (o + 1)) + 1 by omega, List.getElem?_cons_succ]
        · rw [if_neg h1, if_neg (by simp; omega), Array.getElem?_setIfInBounds_ne (by omega)]
theorem Fill.more {w wr : World} {m n k : Nat} {E : TypeId} {x : Value} (F : Fill w wr m n E x) (h : n + k ≤ m) : Fill w (wr.setCells w.heap.size n (List.replicate k x)) m (n + k) E x := by
  obtain ⟨arr, h1, h2, h3⟩ := F.new
  obtain ⟨arr', g1, g2, g3, g4⟩ := heap_setC w.heap.size (List.replicate k x) n wr arr h1
  refine ⟨?_, fun j hj => by rw [g3 j (by omega)]; exact F.old j hj, ⟨arr', g1, by omega, fun j hj => ?_⟩, F.out.trans (out_setC _ _ _ _)⟩
  · rw [size_setC]; exact F.sz
  · rw [g4 j (by omega)]
    split
    · rename_i hh
      rw [List.length_replicate] at hh
      rw [List.getElem?_replicate, if_pos (by omega)]
    · rename_i hh
      rw [List.length_replicate] at hh
      exact h3 j (by omega)
theorem Fill.drew {w wr : World} {m n : Nat} {E : TypeId} {x : Value} (F : Fill w wr m n E x) : Fill w wr.drew m n E x := ⟨F.sz, F.old, F.new, ⟨F.out.os, F.out.tape, F.out.output⟩⟩
structure RepRoads (P : Program) (f : FuncId) (E : TypeId) : Prop where
  pos : ∀ (b off c m : Nat) (x : Int) (w : World), w.cell? ⟨b, off, none⟩ = some (.int .i64 x) → b < w.heap.size → 1 ≤ m → m < 4294967296 →
    Calls P f #[.slice (some ⟨b, off, none⟩) 1 c, .int .i64 m] w fun e w' => e = .returned (.slice (some ⟨w.heap.size, 0, none⟩) m m) ∧ Fill w w' m m E (.int .i64 x)
  zero : ∀ (b off c : Nat) (x : Int) (w : World), w.cell? ⟨b, off, none⟩ = some (.int .i64 x) → b < w.heap.size →
    Calls P f #[.slice (some ⟨b, off, none⟩) 1 c, .int .i64 0] w fun e w' => e = .returned (.slice (some ⟨w.heap.size, 0, none⟩) 0 0) ∧ Fill w w' 0 0 E (.int .i64 x)
def repF : El (.pair SI (.pair I .unit)) → Option (El SI × Unit) := fun x => gd (x.1.length = 1) <| gd (0 ≤ x.2.1) <| gd (x.2.1 ≤ 4294967295) <| some (List.replicate (Int.toNat x.2.1) (List.getD x.1 0 (0 : Int)), ())
end Go.Ev
