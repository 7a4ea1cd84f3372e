/- A verified evaluator for the operations of a translated program, part 4. -/
import Derived.Test.YtgjonkokphlfkaaEv3
import Derived.WalkKit
import Derived.ProofKit
import Derived.OpenShut
import Derived.ShutString
import Derived.ChangeOld
import Derived.Below
import Derived.SizedLaws
import GoSem.Claim
set_option linter.unusedVariables false
set_option linter.unusedSimpArgs false
noncomputable section
namespace Go.Ev
open Go.ChangeShapes Go.WideShapes Go.ChangeAt
variable {P : Program}

def hasRow : S → Bool
  | .slice _ _ => true
  | .agg s => hasRow s
  | .pair a b => hasRow a || hasRow b
  | _ => false
/-- What may be told of a law's arguments. -/
def plainS : S → Bool
  | .int _ => true
  | .bool => true
  | .str => true
  | .slice nl s => !nl && plainS s
  | .agg s => plainS s
  | .pair a b => plainS a && plainS b
  | _ => false
theorem plainS_arr {s : S} (h : plainS (.agg s) = true) : isArr s = false := by
  cases s with
  | pair a b => cases a <;> first | rfl | simp [plainS] at h
  | _ => rfl
/-- The values that a law's arguments may have. -/
def Wf : (s : S) → El s → Prop
  | .int k, n => k.min ≤ n ∧ n ≤ k.max
  | .str, x => x.size ≤ maxLen
  | .slice _ s, xs => xs.length ≤ maxLen ∧ ∀ x ∈ xs, Wf s x
  | .agg s, x => Wf s x
  | .pair a b, x => Wf a x.1 ∧ Wf b x.2
  | _, _ => True

def allSh' : Col := fun _ => some []
/-- Rows lie in memory. -/
def SpotOk (cs : List Value) : Prop := ∀ ad n c, Value.slice (some ad) n c ∈ cs → ad.spot = none
theorem pick_list {α : Type} {Q : Nat → α → Prop} : ∀ n, (∀ i, i < n → ∃ y, Q i y) → ∃ ys : List α, ys.length = n ∧ ∀ i y, ys[i]? = some y → Q i y
  | 0, _ => ⟨[], rfl, fun i y h => by simp at h⟩
  | n + 1, h => by
    obtain ⟨ys, h1, h2⟩ := pick_list n (fun i hi => h i (by omega))
    obtain ⟨y, hy⟩ := h n (by omega)
    refine ⟨ys ++ [y], by simp [h1], fun i z hz => ?_⟩
    rcases Nat.lt_or_ge i ys.length with hl | hl
    · rw [List.getElem?_append_left hl] at hz; exact h2 i z hz
    · rw [List.getElem?_append_right hl] at hz
      have : i - ys.length = 0 := by
        rcases Nat.eq_zero_or_pos (i - ys.length) with h | h
        · exact h
        · rw [List.getElem?_eq_none (by simp; omega)] at hz; cases hz
      rw [this] at hz
      simp at hz
      subst hz
      have : i = n := by omega
      rw [this]; exact hy

theorem cellsOf_eq {s : S} {T : TypeId} (h : Fits P s T) : P.cellsOf T = size s := by
  obtain ⟨i, z, h1, h2, _⟩ := h.info
  simp [Program.cellsOf, h1, h2]
theorem SpotOk.sub {cs ds : List Value} (h : SpotOk cs) (hs : ∀ v ∈ ds, v ∈ cs) : SpotOk ds := fun ad n c hm => h ad n c (hs _ hm)

variable {H : Type} {enc : TypeId × Value → H} {W : World} {held : Bool}

theorem trod_rep : ∀ s : S, (plainS s = true → ∀ (T : TypeId) (fuel : Nat) (cs : List Value) (x : DataW H × List MemPlace), Fits P s T → DataW.trod enc P W 0 (fun _ => true) held fuel T cs = some x →
      ∃ y : El s, (∀ p, Rep P s W allSh' none p .sh y cs) ∧ Wf s y) ∧
    (plainS s = true → ∀ (off : Nat) (fs : List Field) (cs : List Value), FitsF P s off fs → (∀ f ∈ fs, ∃ n x, DataW.trod enc P W 0 (fun _ => true) held n f.type ((cs.drop f.offset).take (P.cellsOf f.type)) = some x) →
      ∃ y : El s, (∀ p, Rep P s W allSh' none p .sh y ((cs.drop off).take (size s))) ∧ Wf s y) := by
  intro s
  -- a struct's one field
  have one : ∀ (s : S), (plainS s = true → ∀ (T : TypeId) (fuel : Nat) (cs : List Value) (x : DataW H × List MemPlace), Fits P s T → DataW.trod enc P W 0 (fun _ => true) held fuel T cs = some x →
      ∃ y : El s, (∀ p, Rep P s W allSh' none p .sh y cs) ∧ Wf s y) → plainS s = true → ∀ (off : Nat) (fs : List Field) (cs : List Value), FOne P (Fits P s) off fs → (∀ f ∈ fs, ∃ n x, DataW.trod enc P W 0 (fun _ => true) held n f.type ((cs.drop f.offset).take (P.cellsOf f.type)) = some x) →
      ∃ y : El s, (∀ p, Rep P s W allSh' none p .sh y ((cs.drop off).take (size s))) ∧ Wf s y := by
    intro s h hp off fs cs ⟨f, e, h1, h2, h3⟩ hf
    subst e
    obtain ⟨n, x, hx⟩ := hf f (by simp)
    rw [h1, cellsOf_eq h3] at hx
    exact h hp f.type n _ x h3 hx
  induction s with
  | unit => exact ⟨fun h => by simp [plainS] at h, fun h => by simp [plainS] at h⟩
  | ptr s _ => exact ⟨fun h => by simp [plainS] at h, fun h => by simp [plainS] at h⟩
  | func a b _ _ => exact ⟨fun h => by simp [plainS] at h, fun h => by simp [plainS] at h⟩
  | map a b _ _ => exact ⟨fun h => by simp [plainS] at h, fun h => by simp [plainS] at h⟩
  | int k =>
    have main : plainS (.int k) = true → ∀ (T : TypeId) (fuel : Nat) (cs : List Value) (x : DataW H × List MemPlace), Fits P (.int k) T → DataW.trod enc P W 0 (fun _ => true) held fuel T cs = some x → ∃ y : El (.int k), (∀ p, Rep P (.int k) W allSh' none p .sh y cs) ∧ Wf (.int k) y := by
      intro _ T fuel cs x hf h
      obtain ⟨n, h1, _, h2⟩ := DataW.trod_int hf.1 h
      refine ⟨n, fun p => h1, ?_⟩
      have : k.min ≤ n ∧ n ≤ k.max := by simpa [Lit.wf] using h2
      exact this
    exact ⟨main, fun hp off fs cs hf => one _ main hp off fs cs hf⟩
  | bool =>
    have main : plainS .bool = true → ∀ (T : TypeId) (fuel : Nat) (cs : List Value) (x : DataW H × List MemPlace), Fits P .bool T → DataW.trod enc P W 0 (fun _ => true) held fuel T cs = some x → ∃ y : El .bool, (∀ p, Rep P .bool W allSh' none p .sh y cs) ∧ Wf .bool y := by
      intro _ T fuel cs x hf h
      obtain ⟨n, h1, _⟩ := DataW.trod_bool hf.1 h
      exact ⟨n, fun p => h1, trivial⟩
    exact ⟨main, fun hp off fs cs hf => one _ main hp off fs cs hf⟩
  | str =>
    have main : plainS .str = true → ∀ (T : TypeId) (fuel : Nat) (cs : List Value) (x : DataW H × List MemPlace), Fits P .str T → DataW.trod enc P W 0 (fun _ => true) held fuel T cs = some x → ∃ y : El .str, (∀ p, Rep P .str W allSh' none p .sh y cs) ∧ Wf .str y := by
      intro _ T fuel cs x hf h
      obtain ⟨n, h1, _, h2⟩ := DataW.trod_string hf.1 h
      exact ⟨n, fun p => h1, h2⟩
    exact ⟨main, fun hp off fs cs hf => one _ main hp off fs cs hf⟩
  | slice nl s ih =>
    have main : plainS (.slice nl s) = true → ∀ (T : TypeId) (fuel : Nat) (cs : List Value) (x : DataW H × List MemPlace), Fits P (.slice nl s) T → DataW.trod enc P W 0 (fun _ => true) held fuel T cs = some x → ∃ y : El (.slice nl s), (∀ p, Rep P (.slice nl s) W allSh' none p .sh y cs) ∧ Wf (.slice nl s) y := by
      intro hp T fuel cs x hf h
      simp only [plainS, Bool.and_eq_true, Bool.not_eq_true'] at hp
      obtain ⟨⟨e, hu, hfe⟩, _⟩ := hf
      rcases DataW.trod_slice hu h with ⟨h1, _⟩ | ⟨a, len, cap, elems, rest, n, _, h1, _, hb, hl, hm, hlen, hel, hrest, _⟩
      · refine ⟨[], fun p => ?_, Nat.zero_le _, fun x hx => by simp at hx⟩
        rw [h1]; exact Rep_nil nl s W allSh' p .sh
      · have hpos := Fits.pos hfe
        have hspot : cap ≠ 0 → a.spot = none := by
          intro hc
          have key : ∀ z : Option (DataW H × List MemPlace), z ≠ none → (W.cells? 0 (a.add (0 * P.cellsOf e)) (P.cellsOf e)).bind (DataW.trod enc P W 0 (fun _ => true) held n e) = z → a.spot = none := by
            intro z hz hq
            cases hcs : W.cells? 0 (a.add (0 * P.cellsOf e)) (P.cellsOf e) with
            | none => rw [hcs] at hq; exact absurd hq.symm hz
            | some ds =>
              obtain ⟨_, hdl, hdc⟩ := World.cells?_some hcs
              rw [cellsOf_eq hfe] at hdl hdc
              have h0 := hdc 0 hpos
              rw [List.getElem?_eq_getElem (by omega)] at h0
              have : (a.add (0 * size s)).add 0 = a := by simp [Addr.add]
              rw [this] at h0
              unfold World.cell? at h0
              split at h0
              · split at h0
                · cases h0
                · rename_i hns
                  cases hsp : a.spot with
                  | none => rfl
                  | some _ => rw [hsp] at hns; exact absurd rfl hns
              · cases h0
          by_cases hl0 : len = 0
          · obtain ⟨hr1, hr2⟩ := hrest rfl
            have := hr2 0 (by omega)
            rw [hl0] at this
            exact key _ (by rw [List.getElem?_eq_getElem (by omega)]; simp) this
          · have := hel 0 (by omega)
            exact key _ (by rw [List.getElem?_eq_getElem (by omega)]; simp) this
        have each : ∀ i, i < len → ∃ y : El s, (∃ ds, At W a.block (a.off + i * size s) ds ∧ a.block < W.heap.size ∧ ∀ p, Rep P s W allSh' none p .sh y ds) ∧ Wf s y := by
          intro i hi
          have hspot := hspot (by omega)
          have he := hel i hi
          rw [cellsOf_eq hfe] at he
          have hi' : i < elems.length := by omega
          rw [List.getElem?_eq_getElem hi'] at he
          simp only [Option.bind_eq_some_iff] at he
          obtain ⟨ds, hds, htr⟩ := he
          obtain ⟨_, hdl, hdc⟩ := World.cells?_some hds
          have hblk : (a.add (i * size s)).block = a.block := by rw [addr_add hspot]
          have hat : At W a.block (a.off + i * size s) ds := by
            intro j v hj
            have hjl : j < size s := by
              rcases Nat.lt_or_ge j (size s) with h | h
              · exact h
              · rw [List.getElem?_eq_none (by omega)] at hj; cases hj
            have := hdc j hjl
            rw [hj, addr_add hspot] at this
            rw [addr_add rfl] at this
            exact this
          have hlt : a.block < W.heap.size := by
            have := World.cells?_block hds hpos
            rw [hblk] at this; exact this
          obtain ⟨y, hy1, hy2⟩ := ih.1 hp.2 e n ds _ hfe htr
          exact ⟨y, ⟨ds, hat, hlt, hy1⟩, hy2⟩
        obtain ⟨ys, hys, hyq⟩ := pick_list len each
        refine ⟨ys, fun p => ⟨some a, cap, ?_, ?_, fun hn => ?_, (fun hn => by cases hn), fun ad had => ?_⟩, by omega, fun y hy => ?_⟩
        · rw [h1, hys]
        · omega
        · rw [hp.1] at hn; cases hn
        · injection had with had
          subst had
          refine ⟨fun h => h.elim hspot (fun h => by simp [isOw] at h), (fun h => by simp [isOw] at h), fun _ => ?_, fun i y hi => ?_⟩
          · cases ys with
            | nil => exact .inl rfl
            | cons y ys =>
              obtain ⟨⟨ds, _, hlt, _⟩, _⟩ := hyq 0 y rfl
              exact .inr ⟨rfl, hlt⟩
          · obtain ⟨⟨ds, hat, _, hr⟩, _⟩ := hyq i y hi
            exact ⟨ds, hat, hr _⟩
        · obtain ⟨i, hi⟩ := List.getElem?_of_mem hy
          exact (hyq i y hi).2
    exact ⟨main, fun hp off fs cs hf => one _ main hp off fs cs hf⟩
  | agg s ih =>
    have main : plainS (.agg s) = true → ∀ (T : TypeId) (fuel : Nat) (cs : List Value) (x : DataW H × List MemPlace), Fits P (.agg s) T → DataW.trod enc P W 0 (fun _ => true) held fuel T cs = some x → ∃ y : El (.agg s), (∀ p, Rep P (.agg s) W allSh' none p .sh y cs) ∧ Wf (.agg s) y := by
      intro hp T fuel cs x hf h
      have hsz := cellsOf_eq hf
      obtain ⟨fs, hu, hff, _, _⟩ := hf.struct (plainS_arr hp)
      obtain ⟨xs, n, _, _, hl, hxs, hx⟩ := DataW.trod_struct hu h
      obtain ⟨y, h1, h2⟩ := ih.2 hp 0 fs.toList cs hff (fun f hf => by
        obtain ⟨i, hi⟩ := List.getElem?_of_mem hf
        have hi' : fs[i]? = some f := by rw [← Array.getElem?_toList]; exact hi
        have := hx i f hi'
        have hlt : i < xs.length := by rw [hxs]; exact (Array.getElem?_eq_some_iff.1 hi').1
        rw [List.getElem?_eq_getElem hlt] at this
        exact ⟨n, _, this⟩)
      refine ⟨y, fun p => ?_, h2⟩
      have := h1 (p ++ [0])
      rw [List.drop_zero, List.take_of_length_le (by rw [hl, hsz]; exact Nat.le_refl _)] at this
      exact this
    exact ⟨main, fun hp off fs cs hf => one _ main hp off fs cs hf⟩
  | pair a b iha ihb =>
    refine ⟨fun _ T fuel cs x hf => absurd hf id, fun hp off fs cs hf hfs => ?_⟩
    simp only [plainS, Bool.and_eq_true] at hp
    obtain ⟨f, fs', e, h1, h2, h3, h4⟩ := hf
    subst e
    obtain ⟨y1, g1, g2⟩ := one a iha.1 hp.1 off [f] cs ⟨f, rfl, h1, h2, h3⟩ (fun f' hf' => hfs f' (by simp at hf'; simp [hf']))
    obtain ⟨y2, g3, g4⟩ := ihb.2 hp.2 (off + size a) fs' cs h4 (fun f' hf' => hfs f' (by simp [hf']))
    refine ⟨(y1, y2), fun p => ⟨(cs.drop off).take (size a), (cs.drop (off + size a)).take (size b), ?_, g1 _, g3 _⟩, g2, g4⟩
    show (cs.drop off).take (size a + size b) = _
    rw [List.take_add, List.drop_drop]

/-- A law's argument. -/
theorem arg_val {s : S} {T : TypeId} {base : Nat} {v : Value} (hf : Fits P s T) (hp : plainS s = true) (h : Value.okWide P W .any base T v) : IsVal s v v.cells.toList ∧ SpotOk v.cells.toList := by
  have cell : ∀ {u : TypeId} {ad : Addr} {n c : Nat}, Cell.okWide P W .any base u (.slice (some ad) n c) → ad.spot = none := by
    intro u ad n c hc
    unfold Cell.okWide at hc
    split at hc
    all_goals first | (rename_i h1; cases h1; done) | (rename_i _ h1; cases h1; done) | skip
    unfold Cell.ok at hc
    split at hc
    all_goals first
      | (rename_i h1 h2; injection h2 with q1 q2 q3; injection q1 with q1; subst q1; exact hc.2.2.2.1)
      | (rename_i h1 h2; cases h2; done)
      | (rename_i h2; cases h2; done)
      | exact hc.elim
  cases s with
  | unit => simp [plainS] at hp
  | ptr s => simp [plainS] at hp
  | func a b => simp [plainS] at hp
  | map a b => simp [plainS] at hp
  | pair a b => exact absurd hf id
  | int k =>
    obtain ⟨n, rfl⟩ := okWide_int hf.1 h
    exact ⟨rfl, fun ad n c hm => by simp [Value.cells] at hm⟩
  | bool =>
    obtain ⟨n, rfl⟩ := okWide_bool hf.1 h
    exact ⟨rfl, fun ad n c hm => by simp [Value.cells] at hm⟩
  | str =>
    obtain ⟨n, rfl⟩ := okWide_string hf.1 h
    exact ⟨rfl, fun ad n c hm => by simp [Value.cells] at hm⟩
  | slice nl s =>
    obtain ⟨⟨e, hu, _⟩, _⟩ := hf
    have h' := h
    obtain ⟨a, len, cap, rfl⟩ := okWide_slice hu h
    refine ⟨rfl, fun ad n c hm => ?_⟩
    simp [Value.cells] at hm
    obtain ⟨rfl, rfl, rfl⟩ := hm
    unfold Value.okWide at h'
    rw [hu] at h'
    exact cell h'
  | agg s =>
    obtain ⟨fs, hu, _⟩ := hf.struct (plainS_arr hp)
    unfold Value.okWide at h
    rw [hu] at h
    obtain ⟨cs, rfl, _, ts, _, _, hc⟩ := h
    refine ⟨rfl, fun ad n c hm => ?_⟩
    obtain ⟨i, hi⟩ := List.getElem?_of_mem hm
    obtain ⟨u, _, hu2⟩ := hc i _ (by rw [← Array.getElem?_toList]; exact hi)
    exact cell hu2

end Go.Ev

set_option linter.unusedVariables false
set_option linter.unusedSimpArgs false
noncomputable section
namespace Go.Ev
variable {P : Program}

theorem coer_self {R : Type} : ∀ (s : S) (x : El s) (K : El s → Option R), plainS s = true → coer s s x K = K x := by
  intro s
  induction s with
  | slice nl s _ =>
    intro x K hp
    simp only [coer]
    rw [dif_eq, dif_pos rfl]
    have : (nl && !nl) = false := by cases nl <;> rfl
    rw [this]
  | agg s ih => intro x K hp; simp only [coer]; exact ih x K hp
  | pair a b iha ihb =>
    intro x K hp
    simp only [plainS, Bool.and_eq_true] at hp
    simp only [coer]
    rw [iha x.1 _ hp.1, ihb x.2 _ hp.2]
  | int k => intro x K hp; simp [coer]
  | bool => intro x K hp; rfl
  | str => intro x K hp; rfl
  | _ => intro x K hp; simp [plainS] at hp

/-- A law's parameters, one by one. -/
def plainPs : S → Bool
  | .unit => true
  | .pair a b => plainS a && plainPs b
  | _ => false
theorem packCo_self {R : Type} : ∀ (ps : S) (pm : List PM) (x : El ps) (K : El ps → Option R), plainPs ps = true → pm.length = nArgs ps → packCo ps (unp ps pm x) K = K x
  | .unit, pm, x, K, _, h => by cases x; simp [unp, packCo]
  | .pair a b, pm, x, K, hp, h => by
    simp only [plainPs, Bool.and_eq_true] at hp
    cases pm with
    | nil => simp [nArgs] at h
    | cons p pm =>
      simp only [unp, packCo]
      rw [coer_self a _ _ hp.1, packCo_self b pm x.2 _ hp.2 (by simpa [nArgs] using h)]
  | .int _, _, _, _, hp, _ => by simp [plainPs] at hp
  | .bool, _, _, _, hp, _ => by simp [plainPs] at hp
  | .str, _, _, _, hp, _ => by simp [plainPs] at hp
  | .slice _ _, _, _, _, hp, _ => by simp [plainPs] at hp
  | .agg _, _, _, _, hp, _ => by simp [plainPs] at hp
  | .ptr _, _, _, _, hp, _ => by simp [plainPs] at hp
  | .func _ _, _, _, _, hp, _ => by simp [plainPs] at hp
  | .map _ _, _, _, _, hp, _ => by simp [plainPs] at hp

def ArgRep (P : Program) (w : World) (s : S) (x : El s) (v : Value) : Prop := ∃ ds, (∀ p, Rep P s w allSh' none p .sh x ds) ∧ IsVal s v ds
def ArgsRep (P : Program) (w : World) : (ps : S) → El ps → List Value → Prop
  | .unit, _, vs => vs = []
  | .pair a b, x, vs => ∃ v vs', vs = v :: vs' ∧ ArgRep P w a x.1 v ∧ ArgsRep P w b x.2 vs'
  | _, _, _ => False
theorem argsRep_ok {w : World} : ∀ (ps : S) (x : El ps) (vs : List Value) (j : Nat), ArgsRep P w ps x vs → ArgsOk P w allSh' j (unp ps (shs (nArgs ps)) x) vs ∧ PMsOk (shs (nArgs ps)) (unp ps (shs (nArgs ps)) x)
  | .unit, x, vs, j, h => by
    have h : vs = [] := h
    subst h
    exact ⟨trivial, trivial⟩
  | .pair a b, x, vs, j, h => by
    obtain ⟨v, vs', rfl, ⟨ds, h1, h2⟩, h3⟩ := h
    have := argsRep_ok b x.2 vs' (j + 1) h3
    exact ⟨⟨⟨ds, h1 _, h2⟩, this.1⟩, rfl, this.2⟩
  | .int _, _, _, _, h => absurd h id
  | .bool, _, _, _, h => absurd h id
  | .str, _, _, _, h => absurd h id
  | .slice _ _, _, _, _, h => absurd h id
  | .agg _, _, _, _, h => absurd h id
  | .ptr _, _, _, _, h => absurd h id
  | .func _ _, _, _, _, h => absurd h id
  | .map _ _, _, _, _, h => absurd h id
theorem length_shs : ∀ n, (shs n).length = n
  | 0 => rfl
  | n + 1 => by simp [shs, length_shs n]

/-- A law that answers true. -/
theorem law_calls {f : FuncId} {ps : S} {F : El ps → Option (Bool × Unit)} (hc : Contract P f (mkSem (shs (nArgs ps)) 1 .bool .sh .unit ps F)) (hp : plainPs ps = true) {w : World} {x : El ps} {args : Array Value} (ha : ArgsRep P w ps x args.toList) (hF : F x = some (true, ())) :
    Calls P f args w fun e w' => e = .returned (.bool true) ∧ Go.RowKit.Below w.heap.size w w' := by
  obtain ⟨h1, h2⟩ := argsRep_ok ps x args.toList 0 ha
  obtain ⟨y, l, hk, hcalls⟩ := hc w allSh' (unp ps (shs (nArgs ps)) x) args.toList h2 h1 Bool (fun y _ => some y) true (by
    show packCo ps (unp ps (shs (nArgs ps)) x) _ = some true
    rw [packCo_self ps _ x _ hp (length_shs _), hF]; rfl)
  have hy : y = true := by injection hk
  subst hy
  rw [Array.toArray_toList] at hcalls
  refine hcalls.mono ?_
  rintro e w' ⟨v, col', rfl, hr, _, hf⟩
  obtain ⟨cs, g1, g2⟩ := hr
  refine ⟨by rw [Rep.bool_val g1 (by simp) g2], hf.out.os, hf.out.tape, hf.out.output, hf.sz, fun b hb => hf.mem b hb (.inr rfl)⟩

end Go.Ev
