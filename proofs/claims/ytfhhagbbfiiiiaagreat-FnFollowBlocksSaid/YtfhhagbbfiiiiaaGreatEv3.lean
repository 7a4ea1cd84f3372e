/- A verified evaluator for the operations of a translated program, part 3. -/
import Derived.Test.YtfhhagbbfiiiiaaGreatEv2
import Derived.MapKept
import Derived.WideKeyRuns
import Derived.Still
import Derived.Deep.LoopGhost
import Derived.IntWalk
noncomputable section
namespace Go.Ev
variable {P : Program}
theorem Pieces.take {w : World} {col : Col} {pth : List Nat} {s : S} {m : M} {k : Nat} {xs : List (El s)} {L : List Value} (H : Pieces P w col pth s m k xs L) (n : Nat) : Pieces P w col pth s m k (xs.take n) (L.take (n * size s)) := by
  refine ⟨?_, fun i x hi => ?_⟩
  · rw [List.length_take, List.length_take, H.1]
    rcases Nat.le_total n xs.length with h | h
    · rw [Nat.min_eq_left h, Nat.min_eq_left (Nat.mul_le_mul_right _ h)]
    · rw [Nat.min_eq_right h, Nat.min_eq_right (Nat.mul_le_mul_right _ h)]
  · have hin : i < n := by
      rcases Nat.lt_or_ge i n with h | h
      · exact h
      · rw [List.getElem?_eq_none (by rw [List.length_take]; omega)] at hi; cases hi
    rw [List.getElem?_take_of_lt hin] at hi
    have := H.2 i x hi
    have h5 : (i + 1) * size s ≤ n * size s := Nat.mul_le_mul_right _ hin
    rw [Nat.succ_mul] at h5
    rw [List.drop_take, List.take_take, Nat.min_eq_left (by omega)]
    exact this
theorem Pieces.drop {w : World} {col : Col} {pth : List Nat} {s : S} {m : M} {k : Nat} {xs : List (El s)} {L : List Value} (H : Pieces P w col pth s m k xs L) (n : Nat) : Pieces P w col pth s m (k + n) (xs.drop n) (L.drop (n * size s)) := by
  refine ⟨by rw [List.length_drop, List.length_drop, H.1, Nat.sub_mul], fun i x hi => ?_⟩
  rw [List.getElem?_drop] at hi
  have := H.2 _ x hi
  rw [List.drop_drop, ← Nat.add_mul, Nat.add_assoc]
  exact this
section
variable {C : Ctx} {B : Base} {R : Type} {K : List Slot → Option R} {res : R} {next : Act → World → Prop} {Q : Exit → Act → World → Prop} {o : Oper} {σ : List Slot} {a : Act} {w : World} {col : Col}
theorem run_copy (w : World) {w' : World} (t t' ty e : TypeId) (i : TypeInfo) (ht : P.underlying t = some (.slice e)) (hi : P.info? e = some i) (b : Addr) (dLen dCap : Nat) (a : Option Addr) (n c : Nat) (news : List Value)
    (hf : (Builtin.firstCells i.size (Nat.min n dLen) (.slice a n c)).run P w = .ok news.toArray w) (hs : (storeCells b news).run P w = .ok () w') :
    (Builtin.copy_ #[t, t'] ty #[.slice (some b) dLen dCap, .slice a n c]).run P w = .ok (goInt (Nat.min n dLen)) w' := by
  simp [Builtin.copy_, run_underlying ht, sizeOf, typeInfo, hi, Builtin.lenOf, hf, hs]
theorem run_copy_nil' (w : World) (t t' ty e : TypeId) (i : TypeInfo) (ht : P.underlying t = some (.slice e)) (hi : P.info? e = some i) (dCap : Nat) (a : Option Addr) (n c : Nat) :
    (Builtin.copy_ #[t, t'] ty #[.slice none 0 dCap, .slice a n c]).run P w = .ok (goInt 0) w := by
  cases a <;> simp [Builtin.copy_, run_underlying ht, sizeOf, typeInfo, hi, Builtin.lenOf, Builtin.firstCells, loadCells, loadCellsFrom]
theorem exec_copy {T T' : TypeId} {xa xb : Operand} {c : Call} (hop : o.op = .call c) (hcal : c.callee = .builtin .copy) (hargs : c.args = #[xa, xb]) (hts : c.argTypes = #[T, T']) :
    (execOp a.eval o).run P w = ((Builtin.copy_ #[T, T'] o.type #[a.eval xa, a.eval xb]).run P w).andThen fun v w' => .ok (.value v) w' := by
  simp [execOp, hop, resolve, hcal, hargs, hts, invoke, builtin]
theorem mn_eq (x y : Nat) : mn (x : Int) (y : Int) = ((Nat.min y x : Nat) : Int) := by
  unfold mn
  have : Nat.min y x = min y x := rfl
  rw [this]
  split <;> omega
theorem Copy.ok (hC : CtxOk P C) (I : InvC P B col σ a w) (hG : Good P B K res next) {T T' : TypeId} {xa xb : Operand} {sTa sTb : Option S} {c : Call} (hop : o.op = .call c) (hcal : c.callee = .builtin .copy) (hargs : c.args = #[xa, xb]) (hts : c.argTypes = #[T, T'])
    (he : copyK C T σ o.dst (Ev.rdo σ sTa xa) (Ev.rdo σ sTb xb) K = some res) : o.wp P a w next Q := by
  have hoa := I.rdo sTa xa
  have hob := I.rdo sTb xb
  generalize Ev.rdo σ sTa xa = sla at he hoa
  generalize Ev.rdo σ sTb xb = slb at he hob
  unfold copyK at he
  split at he
  · rename_i r
    split at he
    · cases he
    · rename_i cb σ2 hel
      split at he
      · rename_i _ _ nl s m xs nl' s' m' ys hg2
        obtain ⟨hF, he⟩ := chk_ok hC.ty he
        rw [dif_eq] at he
        split at he
        · rename_i hss
          subst hss
          obtain ⟨hb, he⟩ := bif3_some he
          simp only [Bool.and_eq_true] at hb
          obtain ⟨how, hno⟩ := hb
          simp only at he
          obtain ⟨col2, pth0, m0, csy, I2, L, hry, hvy, hpy, _⟩ := elems_ok I hob hel σ.length (Nat.le_refl _)
          have hno0 : noOwn (elemM m0) = true := by
            rcases hpy with ⟨h, _⟩ | ⟨h, _⟩
            · exact h
            · rw [h]; exact hno
          obtain ⟨m1, hg⟩ : ∃ m1, gs σ r = .val (.slice nl s') m1 xs := by
            rcases L.less.2 r with e | e | ⟨s1, m1, m2, x1, e, e'⟩ | ⟨cs, cs', e, e', _⟩
            · exact ⟨m, by rw [← e]; exact hg2⟩
            · rw [hg2] at e; cases e
            · rw [hg2] at e'
              injection e' with q1 q2 q3
              subst q1
              have q3 := eq_of_heq q3
              subst q3
              exact ⟨m1, e⟩
            · rw [hg2] at e'; cases e'
          have eva : a.eval xa = Act.V a r := AlOk.self hg hoa
          have hle : le (.ow .sh) m = true := by cases m <;> first | rfl | (simp [isOw] at how)
          have I3 := I2.less hg2 hle
          generalize hc3 : reCol col2 (lessF (.slice nl s') (.ow .sh) [r]) [r] = col3 at I3
          have hlt : r < σ2.length := lt_of_gs hg2 (by simp)
          have hk := I3.ok r
          rw [gs_ps_same _ _ _ hlt] at hk
          obtain ⟨csx, hrx, hvx⟩ := hk
          obtain ⟨a0, c0, ev0, es0, k1, k2, k3, k4⟩ := Rep.slice_val hrx (by simp) hvx
          obtain ⟨a1, c1, ev1, es1, l1, l2, l3, l4⟩ := Rep.slice_val hry (by simp) hvy
          have k1 : xs.length ≤ c0 := k1
          have l1 : ys.length ≤ c1 := l1
          have ev0 : a.eval xa = .slice a0 xs.length c0 := eva.trans ev0
          have ev1 : a.eval xb = .slice a1 ys.length c1 := ev1
          obtain ⟨⟨e, hu, hFe⟩, _⟩ := hF
          obtain ⟨inf, z, i1, i2, i3, i4, i5⟩ := Fits.info hFe
          have I4 := I3.dead r
          have done : ∀ (w4 : World), (Builtin.copy_ #[T, T'] o.type #[.slice a0 xs.length c0, .slice a1 ys.length c1]).run P w = .ok (goInt (Nat.min ys.length xs.length)) w4 → InvC P B col3 (Ev.put (ps σ2 r (.val (.slice nl s') (.ow .sh) xs)) r .dead) a w4 →
              (∃ cs, Rep P (.slice nl s') w4 col3 none [r] (.ow .sh) (ys.take xs.length ++ xs.drop ys.length) cs ∧ IsVal (.slice nl s') (Act.V a r) cs) → o.wp P a w next Q := by
            intro w4 hrun I5 hrep
            have I6 := I5.replace (r := r) (y := .val (.slice nl s') (.ow .sh) (ys.take xs.length ++ xs.drop ys.length)) (fun _ _ _ => rfl) (fun _ _ h => h) hrep (fun _ => rfl)
            refine op_value (v := goInt (Nat.min ys.length xs.length)) (w' := w4) (by rw [exec_copy hop hcal hargs hts, ev0, ev1, hrun]; rfl) (hG _ _ _ ⟨col3, I6.fin (v := goInt (Nat.min ys.length xs.length)) (fun d _ => ?_)⟩ he)
            rw [mn_eq]
            exact New_int d _ _
          have hlen : (ys.take xs.length ++ xs.drop ys.length).length = xs.length := by
            rw [List.length_append, List.length_take, List.length_drop]; omega
          cases a0 with
          | none =>
            obtain ⟨rfl, rfl⟩ := k3 rfl
            refine done w ?_ I4 ⟨_, ?_, hvx⟩
            · have := run_copy_nil' (P := P) w T T' o.type e inf hu i1 0 a1 ys.length c1
              simpa using this
            · simpa using hrx
          | some ad0 =>
            obtain ⟨hs0, hown0, _, hx0⟩ := k4 ad0 rfl
            have hs0 := hs0 (.inr rfl)
            obtain ⟨hcol0, hob0⟩ := hown0 rfl
            obtain ⟨Lx, hatx, hpx⟩ := pieces_of xs 0 ad0.off (fun i x hi => by
              obtain ⟨ds, g1, g2⟩ := hx0 i x hi
              exact ⟨ds, g1, by rw [Nat.zero_add]; exact g2⟩)
            have sh2 : ∀ {ds : List Value} {x : El s'} {p : List Nat}, Rep P s' w col2 none p (elemM m0) x ds → ∀ p', Rep P s' w col3 none p' .sh x ds := by
              intro ds x p H p'
              refine (H.toSh hno0 (p' := p')).stay ⟨fun b q _ _ ho => (by rw [ownAt_sh] at ho; cases ho), fun b _ hc => ?_, fun _ _ _ => rfl, Nat.le_refl _⟩
              rw [← hc3, reCol_quiet _ _ (by simp) (.inr hc)]; exact hc
            obtain ⟨Ly, haty, hpy'⟩ : ∃ Ly, (∀ ad, a1 = some ad → At w ad.block ad.off Ly) ∧ Pieces P w col3 [r] s' .sh 0 ys Ly := by
              cases a1 with
              | none =>
                obtain ⟨rfl, _⟩ := l3 rfl
                exact ⟨[], (fun ad h => by cases h), ⟨by simp, fun i x h => by simp at h⟩⟩
              | some ad =>
                obtain ⟨L, g1, g2⟩ := pieces_of (pth := [r]) (m := .sh) (col := col3) ys 0 ad.off (fun i x hi => by
                  obtain ⟨ds, g1, g2⟩ := (l4 ad rfl).2.2.2 i x hi
                  exact ⟨ds, g1, sh2 g2 _⟩)
                exact ⟨L, fun ad' h => by injection h with h; subst h; exact g1, g2⟩
            have hAddr : ∀ (ad : Addr) (n : Nat), ad.spot = none → ad.add n = ⟨ad.block, ad.off + n, none⟩ := fun ad n h => addr_add h n
            have hpn := hpy'.take xs.length
            have hpd := hpx.drop ys.length
            generalize hN : Ly.take (xs.length * size s') = N at hpn
            have hNl : N.length = Nat.min ys.length xs.length * inf.size := by
              rw [hpn.1, List.length_take, i2]
              have : Nat.min ys.length xs.length = min xs.length ys.length := Nat.min_comm _ _
              rw [this]
            have hmin : Nat.min ys.length xs.length ≤ xs.length := Nat.min_le_right _ _
            have hsz : Nat.min ys.length xs.length * inf.size ≤ c0 * size s' := by rw [i2]; exact Nat.mul_le_mul_right _ (by omega)
            obtain ⟨w', hst, W⟩ := Wr.mk' (P := P) (w := w) (ad := ad0) (ns := N) hs0 (by
              obtain ⟨arr, t, g1, g2⟩ := hob0
              exact ⟨arr, t, g1, by rw [hNl]; omega⟩) hpn.oneCell
            have hrun : (Builtin.copy_ #[T, T'] o.type #[.slice (some ad0) xs.length c0, .slice a1 ys.length c1]).run P w = .ok (goInt (Nat.min ys.length xs.length)) w' := by
              refine run_copy w T T' o.type e inf hu i1 ad0 xs.length c0 a1 ys.length c1 N ?_ hst
              cases a1 with
              | none =>
                obtain ⟨rfl, _⟩ := l3 rfl
                have : N = [] := List.length_eq_zero_iff.1 (by rw [hNl]; simp [Nat.min])
                rw [this]; exact run_firstCells_none w _ _ _ _
              | some ad1 =>
                refine run_firstCells_some w inf.size _ ad1 ys.length c1 N hNl (fun j v hj => ?_)
                have hl1 : c1 ≠ 0 := fun e => by
                  have h0 : ys.length = 0 := by omega
                  have h1 : N.length = 0 := by rw [hNl, h0]; simp [Nat.min]
                  rw [List.getElem?_eq_none (by omega)] at hj; cases hj
                rw [hAddr _ _ ((l4 ad1 rfl).1 (.inl hl1))]
                rw [← hN, List.getElem?_take] at hj
                split at hj
                · exact haty ad1 rfl j v hj
                · cases hj
            have hcol0 : col3 ad0.block = some [r] := hcol0
            have hfd : (gs (Ev.put (ps σ2 r (.val (.slice nl s') (.ow .sh) xs)) r .dead) r).isRoot = false := by rw [gs_put_dead]; rfl
            have I5 := I4.wrOff (FreeX.of (q := []) hfd) (ad := ad0) hcol0 W
            have stay : ∀ {pt : List Nat} {x : El s'} {ds : List Value}, Rep P s' w col3 none pt .sh x ds → Rep P s' w' col3 none pt .sh x ds := by
              intro pt x ds H
              refine H.stay ⟨fun _ _ _ h _ => h, fun _ _ h => h, fun b hb hq => W.other b ?_, Nat.le_of_eq W.sz.symm⟩
              rintro rfl
              rcases hq with hq | ⟨q', _, hq⟩
              · rw [hcol0] at hq; cases hq
              · rw [ownAt_sh] at hq; cases hq
            have p1 : Pieces P w' col3 [r] s' .sh 0 (ys.take xs.length) N := hpn.imp (fun i x ds _ H => stay H)
            have p2 : Pieces P w' col3 [r] s' .sh (0 + (ys.take xs.length).length) (xs.drop ys.length) (Lx.drop (ys.length * size s')) := hpd.imp (fun i x ds _ H => stay (Rep.path H rfl))
            have hat : At w' ad0.block ad0.off (N ++ Lx.drop (ys.length * size s')) := by
              refine At.append W.inn (fun j v hj => ?_)
              rw [List.getElem?_drop] at hj
              have hlt : ys.length * size s' + j < Lx.length := by
                rcases Nat.lt_or_ge (ys.length * size s' + j) Lx.length with h | h
                · exact h
                · rw [List.getElem?_eq_none h] at hj; cases hj
              have hyx : ys.length ≤ xs.length := by
                rcases Nat.le_total ys.length xs.length with h | h
                · exact h
                · have := Nat.mul_le_mul_right (size s') h
                  rw [hpx.1] at hlt; omega
              have hNe : N.length = ys.length * size s' := by
                rw [hNl, i2]
                have : Nat.min ys.length xs.length = ys.length := Nat.min_eq_left hyx
                rw [this]
              have := W.out (ad0.off + N.length + j) (.inr (by omega))
              rw [this, hNe, Nat.add_assoc]
              exact hatx _ v hj
            refine done w' hrun I5 ⟨_, SliceRep.mk' hs0 hat (p1.append p2) hcol0 (W.own _ hob0) (by rw [hlen]; exact k1) (fun hnl => ?_), ?_⟩
            · intro e
              have hx : xs = [] := List.length_eq_zero_iff.1 (by rw [← hlen, e]; rfl)
              have := k2 hnl hx
              cases this
            · rw [hlen, ← ev0, eva]; rfl
        · cases he
      · cases he
  · cases he
theorem CopyM.ok (hC : CtxOk P C) (I : InvC P B col σ a w) (hG : Good P B K res next) {T T' : TypeId} {xa xb : Operand} {sTa sTb : Option S} {c : Call} (hop : o.op = .call c) (hcal : c.callee = .builtin .copy) (hargs : c.args = #[xa, xb]) (hts : c.argTypes = #[T, T'])
    (he : copyMK C T σ o.dst (Ev.rdo σ sTa xa) (Ev.rdo σ sTb xb) K = some res) : o.wp P a w next Q := by
  have hoa := I.rdo sTa xa
  have hob := I.rdo sTb xb
  generalize Ev.rdo σ sTa xa = sla at he hoa
  generalize Ev.rdo σ sTb xb = slb at he hob
  unfold copyMK at he
  split at he
  · rename_i r
    split at he
    · cases he
    · rename_i cb σ2 hel
      split at he
      · rename_i _ _ nl s m xs nl' s' m' ys hg2
        obtain ⟨hF, he⟩ := chk_ok hC.ty he
        rw [dif_eq] at he
        split at he
        · rename_i hss
          subst hss
          obtain ⟨how, he⟩ := bif3_some he
          split at he
          · rename_i hlen
            have hlen : xs.length = ys.length := hlen
            simp only at he
            obtain ⟨col2, pth0, m0, csy, I2, L, hry, hvy, hpy, hdd⟩ := elems_ok I hob hel (σ.length + r + 1) (by omega)
            obtain ⟨m1, hg⟩ : ∃ m1, gs σ r = .val (.slice nl s') m1 xs := by
              rcases L.less.2 r with e | e | ⟨s1, m1, m2, x1, e, e'⟩ | ⟨cs, cs', e, e', _⟩
              · exact ⟨m, by rw [← e]; exact hg2⟩
              · rw [hg2] at e; cases e
              · rw [hg2] at e'
                injection e' with q1 q2 q3
                subst q1
                have q3 := eq_of_heq q3
                subst q3
                exact ⟨m1, e⟩
              · rw [hg2] at e'; cases e'
            have eva : a.eval xa = Act.V a r := AlOk.self hg hoa
            have hle : le (.ow .sh) m = true := by cases m <;> first | rfl | (simp [isOw] at how)
            have I3 := I2.less hg2 hle
            generalize hc3 : reCol col2 (lessF (.slice nl s') (.ow .sh) [r]) [r] = col3 at I3
            have hlt : r < σ2.length := lt_of_gs hg2 (by simp)
            have hk := I3.ok r
            rw [gs_ps_same _ _ _ hlt] at hk
            obtain ⟨csx, hrx, hvx⟩ := hk
            obtain ⟨a0, c0, ev0, es0, k1, k2, k3, k4⟩ := Rep.slice_val hrx (by simp) hvx
            obtain ⟨a1, c1, ev1, es1, l1, l2, l3, l4⟩ := Rep.slice_val hry (by simp) hvy
            have k1 : xs.length ≤ c0 := k1
            have l1 : ys.length ≤ c1 := l1
            have ev0 : a.eval xa = .slice a0 xs.length c0 := eva.trans ev0
            have ev1 : a.eval xb = .slice a1 ys.length c1 := ev1
            obtain ⟨⟨e, hu, hFe⟩, _⟩ := hF
            obtain ⟨inf, z, i1, i2, i3, i4, i5⟩ := Fits.info hFe
            have I4 := I3.dead r
            obtain ⟨r1, hr1, hne, hrowy⟩ : ∃ r1, (gs (Ev.put (ps σ2 r (.val (.slice nl s') (.ow .sh) xs)) r .dead) r1).isRoot = false ∧ r ≠ r1 ∧
                ∀ ad, a1 = some ad → ∀ i x, ys[i]? = some x → ∃ ds, At w ad.block (ad.off + i * size s') ds ∧ Rep P s' w col3 none ([r1] ++ [0 + i]) (elemM m') x ds := by
              have keep : ∀ {r1 : Nat} {ds : List Value} {x : El s'} {e : List Nat} {mm : M}, r ≠ r1 → Rep P s' w col2 none ([r1] ++ e) mm x ds → Rep P s' w col3 none ([r1] ++ e) mm x ds := by
                intro r1 ds x e mm hr H
                rw [← hc3]
                exact H.apart (Apart.root (fun h => hr h.symm) _ _) (by simp) _
              rcases hpy with ⟨hn, hm⟩ | ⟨rfl, r1, rfl, hroot, hor⟩
              · have hne : r ≠ σ.length + r + 1 := by omega
                have hout : gs (Ev.put (ps σ2 r (.val (.slice nl s') (.ow .sh) xs)) r .dead) (σ.length + r + 1) = .dead := gs_out _ _ (by rw [length_put, length_ps]; have := L.less.1; omega)
                refine ⟨σ.length + r + 1, by rw [hout]; rfl, hne, fun ad ha i x hi => ?_⟩
                obtain ⟨ds, g1, g2⟩ := (l4 ad ha).2.2.2 i x hi
                refine ⟨ds, g1, keep hne ?_⟩
                have hm : m' = .sh := hm
                rw [hm]
                exact Rep.toSh g2 hn
              · have hne : r ≠ r1 := by
                  rintro rfl
                  rw [hg2] at hroot; cases hroot
                refine ⟨r1, ?_, hne, fun ad ha i x hi => ?_⟩
                · rw [gs_put_ne (fun h => hne h.symm), gs_ps_ne _ _ _ _ (fun h => hne h.symm)]
                  cases Slot.isAl (gs σ2 r1) r <;> first | rfl | exact hroot
                · obtain ⟨ds, g1, g2⟩ := (l4 ad ha).2.2.2 i x hi
                  exact ⟨ds, g1, keep hne (by rw [Nat.zero_add]; exact g2)⟩
            have done : ∀ (w4 : World) (col5 : Col), (Builtin.copy_ #[T, T'] o.type #[.slice a0 xs.length c0, .slice a1 ys.length c1]).run P w = .ok (goInt (Nat.min ys.length xs.length)) w4 → InvC P B col5 (Ev.put (ps σ2 r (.val (.slice nl s') (.ow .sh) xs)) r .dead) a w4 →
                (∃ cs, Rep P (.slice nl s') w4 col5 none [r] (.ow (meet (elemM m') (elemM m'))) ys cs ∧ IsVal (.slice nl s') (Act.V a r) cs) → o.wp P a w next Q := by
              intro w4 col5 hrun I5 hrep
              have I6 := I5.replace (r := r) (y := .val (.slice nl s') (.ow (meet (elemM m') (elemM m'))) ys) (fun _ _ _ => rfl) (fun _ _ h => h) hrep (fun _ => rfl)
              refine op_value (v := goInt (Nat.min ys.length xs.length)) (w' := w4) (by rw [exec_copy hop hcal hargs hts, ev0, ev1, hrun]; rfl) (hG _ _ _ ⟨col5, I6.fin (v := goInt (Nat.min ys.length xs.length)) (fun d _ => ?_)⟩ he)
              rw [mn_eq]
              exact New_int d _ _
            cases a0 with
            | none =>
              obtain ⟨hx0, hc0⟩ := k3 rfl
              have hx0 : xs = [] := hx0
              have hy0 : ys = [] := List.length_eq_zero_iff.1 (by rw [← hlen, hx0]; rfl)
              subst hx0; subst hy0; subst hc0
              refine done w col3 ?_ I4 ⟨_, Rep_nil nl s' w col3 [r] _, ?_⟩
              · have := run_copy_nil' (P := P) w T T' o.type e inf hu i1 0 a1 0 c1
                simpa using this
              · rw [← eva, ev0]; rfl
            | some ad0 =>
              obtain ⟨hs0, hown0, _, hx0⟩ := k4 ad0 rfl
              have hs0 := hs0 (.inr rfl)
              obtain ⟨hcol0, hob0⟩ := hown0 rfl
              obtain ⟨Ly, haty, hpy'⟩ : ∃ Ly, (∀ ad, a1 = some ad → At w ad.block ad.off Ly) ∧ Pieces P w col3 [r1] s' (elemM m') 0 ys Ly := by
                cases a1 with
                | none =>
                  obtain ⟨rfl, _⟩ := l3 rfl
                  exact ⟨[], (fun ad h => by cases h), ⟨by simp, fun i x h => by simp at h⟩⟩
                | some ad =>
                  obtain ⟨L, g1, g2⟩ := pieces_of ys 0 ad.off (hrowy ad rfl)
                  exact ⟨L, fun ad' h => by injection h with h; subst h; exact g1, g2⟩
              have hAddr : ∀ (ad : Addr) (n : Nat), ad.spot = none → ad.add n = ⟨ad.block, ad.off + n, none⟩ := fun ad n h => addr_add h n
              have hmin : Nat.min ys.length xs.length = ys.length := by rw [hlen]; exact Nat.min_self _
              have hNl : Ly.length = ys.length * inf.size := by rw [i2]; exact hpy'.1
              have hsz : ys.length * inf.size ≤ c0 * size s' := by rw [i2]; exact Nat.mul_le_mul_right _ (by omega)
              obtain ⟨w', hst, W⟩ := Wr.mk' (P := P) (w := w) (ad := ad0) (ns := Ly) hs0 (by
                obtain ⟨arr, t, g1, g2⟩ := hob0
                exact ⟨arr, t, g1, by rw [hNl]; omega⟩) hpy'.oneCell
              have hrun : (Builtin.copy_ #[T, T'] o.type #[.slice (some ad0) xs.length c0, .slice a1 ys.length c1]).run P w = .ok (goInt (Nat.min ys.length xs.length)) w' := by
                refine run_copy w T T' o.type e inf hu i1 ad0 xs.length c0 a1 ys.length c1 Ly ?_ hst
                rw [hmin]
                cases a1 with
                | none =>
                  obtain ⟨rfl, _⟩ := l3 rfl
                  have : Ly = [] := List.length_eq_zero_iff.1 (by rw [hNl]; simp)
                  rw [this]; exact run_firstCells_none w _ _ _ _
                | some ad1 =>
                  refine run_firstCells_some w inf.size _ ad1 ys.length c1 Ly hNl (fun j v hj => ?_)
                  have hl1 : c1 ≠ 0 := fun e => by
                    have h0 : ys.length = 0 := by omega
                    have h1 : Ly.length = 0 := by rw [hNl, h0]; simp
                    rw [List.getElem?_eq_none (by omega)] at hj; cases hj
                  rw [hAddr _ _ ((l4 ad1 rfl).1 (.inl hl1))]
                  exact haty ad1 rfl j v hj
              have hcol0 : col3 ad0.block = some [r] := hcol0
              have hfd : (gs (Ev.put (ps σ2 r (.val (.slice nl s') (.ow .sh) xs)) r .dead) r).isRoot = false := by rw [gs_put_dead]; rfl
              have I5 := I4.wrOff (FreeX.of (q := []) hfd) (ad := ad0) hcol0 W
              have stay : ∀ {pt : List Nat} {mm : M} {x : El s'} {ds : List Value}, (∀ q', pt ++ q' ≠ [r]) → Rep P s' w col3 none pt mm x ds → Rep P s' w' col3 none pt mm x ds := by
                intro pt mm x ds hpt H
                refine H.stay ⟨fun _ _ _ h _ => h, fun _ _ h => h, fun b hb hq => W.other b ?_, Nat.le_of_eq W.sz.symm⟩
                rintro rfl
                rcases hq with hq | ⟨q', hq, _⟩
                · rw [hcol0] at hq; cases hq
                · rw [hcol0] at hq; injection hq with hq; exact hpt q' hq.symm
              have py : Pieces P w' col3 [r1] s' (elemM m') 0 ys Ly := hpy'.imp (fun i x ds _ H => stay (fun q' e => by simp at e) H)
              have hr2 : gs (Ev.put (ps σ2 r (.val (.slice nl s') (.ow .sh) xs)) r .dead) (σ2.length + r + r1 + 2) = .dead := gs_out _ _ (by rw [length_put, length_ps]; omega)
              have hfx : FreeX (Ev.put (ps σ2 r (.val (.slice nl s') (.ow .sh) xs)) r .dead) [σ2.length + r + r1 + 2] := FreeX.of (q := []) (by rw [hr2]; rfl)
              have px : Pieces P w' col3 [σ2.length + r + r1 + 2] s' (elemM m') 0 ([] : List (El s')) [] := ⟨by simp, fun i x h => by simp at h⟩
              obtain ⟨col5, I6, hrep⟩ := join_rows (nl := nl) (c := c0) I5 hfx hr1 hfd (by omega) (by omega) hne px py (ad := ad0) hs0 (by simpa using W.inn) (.inr hcol0) (W.own _ hob0) (by simp; omega) (fun hnl e => by
                have hy : ys = [] := by simpa using e
                have hx : xs = [] := List.length_eq_zero_iff.1 (by rw [hlen, hy]; rfl)
                have := k2 hnl hx
                cases this)
              refine done w' col5 hrun I6 ⟨_, by simpa using hrep, ?_⟩
              rw [← eva, ev0, hlen]; rfl
          · cases he
        · cases he
      · cases he
  · cases he
end
end Go.Ev

noncomputable section
namespace Go.Ev
variable {P : Program}
theorem Rep.flat1 {s : S} (hs : isScalar s = true) {w : World} {col : Col} {p : List Nat} {m : M} {x : El s} {cs : List Value} (H : Rep P s w col none p m x cs) : cs = fcells s x ∧ cs = [fval s x] := by
  cases s <;> first | (simp [isScalar] at hs; done) | exact ⟨H, H⟩
theorem Rep.flat : ∀ (s : S) {w : World} {col : Col} {p : List Nat} {m : M} {x : El s} {cs : List Value}, numS s = true → Rep P s w col none p m x cs → cs = fcells s x := by
  intro s
  induction s with
  | pair a b _ ihb =>
    intro w col p m x cs h H
    obtain ⟨c1, c2, e, h1, h2⟩ := H
    cases a with
    | int k => rw [e, ihb h h2, (Rep.flat1 rfl h1).1]; rfl
    | bool => rw [e, ihb h h2, (Rep.flat1 rfl h1).1]; rfl
    | _ => simp [numS] at h
  | int k => intro w col p m x cs _ H; exact H
  | bool => intro w col p m x cs _ H; exact H
  | _ => intro w col p m x cs h; simp [numS] at h
theorem Rep.key {s : S} (hs : keyS s = true) {w : World} {col : Col} {p : List Nat} {m : M} {x : El s} {cs : List Value} {v : Value} (H : Rep P s w col none p m x cs) (hv : IsVal s v cs) : v = fval s x := by
  cases s with
  | int k => exact H.int_val (by simp) hv
  | bool => exact H.bool_val (by simp) hv
  | agg s =>
    have hv : v = .agg cs.toArray := hv
    have H : Rep P s w col none (p ++ [0]) (agM m) x cs := H
    have e : cs = fcells s x := by
      cases s with
      | pair a b =>
        by_cases ha : a = .unit
        · subst ha
          have hs : numS b = true := hs
          obtain ⟨c1, c2, e, h1, h2⟩ := H
          have h1 : c1 = [] := h1
          rw [e, h1, Rep.flat b hs h2]
          rfl
        · exact Rep.flat _ (by cases a <;> first | exact absurd rfl ha | exact hs) H
      | _ => exact Rep.flat _ hs H
    rw [hv, e]; rfl
  | _ => simp [keyS] at hs
theorem Rep.ofScalar {s : S} (hs : isScalar s = true) (w : World) (col : Col) (p : List Nat) (x : El s) : ∃ cs, Rep P s w col none p .sh x cs ∧ IsVal s (fval s x) cs := by
  cases s <;> first | (simp [isScalar] at hs; done) | exact ⟨_, rfl, rfl⟩
theorem rowS_inj : ∀ {k k' : IntKind} {n n' : Nat}, rowS k n = rowS k' n' → k = k' ∧ n = n'
  | k, k', 0, 0, h => by injection h with h; exact ⟨h, rfl⟩
  | k, k', 0, n' + 1, h => by cases h
  | k, k', n + 1, 0, h => by cases h
  | k, k', n + 1, n' + 1, h => by
    have h : S.pair (.int k) (rowS k n) = .pair (.int k') (rowS k' n') := h
    injection h with h1 h2
    obtain ⟨e1, e2⟩ := rowS_inj h2
    exact ⟨e1, by rw [e2]⟩
theorem size_rowS (k : IntKind) : ∀ n, size (rowS k n) = n + 1
  | 0 => rfl
  | n + 1 => by simp only [rowS, size, size_rowS k n]; omega
theorem rowEl_rep (k : IntKind) (w : World) (col : Col) : ∀ (n : Nat) (l : List Int) (p : List Nat), l.length = n + 1 → Rep P (rowS k n) w col none p .sh (rowEl k n l) (l.map (.int k))
  | 0, [x], p, _ => rfl
  | n + 1, x :: l, p, h => ⟨[.int k x], l.map (.int k), rfl, rfl, rowEl_rep k w col n l _ (by simpa using h)⟩
section
variable {C : Ctx} {B : Base} {R : Type} {K : List Slot → Option R} {res : R} {next : Act → World → Prop} {Q : Exit → Act → World → Prop} {o : Oper} {σ : List Slot} {a : Act} {w : World} {col : Col}
theorem intsC_ok (I : InvC P B col σ a w) {k : IntKind} : ∀ (l : List (Nat × Operand)) {ns : List Int}, intsC k σ (l.map fun x => rdo σ none x.2) = some ns → l.map (fun x => a.eval x.2) = ns.map (.int k)
  | [], ns, h => by simp only [List.map_nil, intsC, Option.some.injEq] at h; subst h; rfl
  | x :: l, ns, h => by
    simp only [List.map_cons, intsC] at h
    split at h
    · rename_i k' m n hc
      obtain ⟨hk, h2⟩ := bif3_some h
      have hk := eq_of_beq hk
      subst hk
      simp only [Option.map_eq_some_iff] at h2
      obtain ⟨ns', h3, rfl⟩ := h2
      simp only [List.map_cons, I.int (I.rdo none x.2) hc, intsC_ok I l h3]
    · cases h
theorem flat_ints (k : IntKind) : ∀ l : List Int, l.flatMap (fun x => (Value.int k x).cells.toList) = l.map (Value.int k)
  | [] => rfl
  | x :: l => by simp only [List.flatMap_cons, flat_ints k l]; rfl
theorem ArrBuild.ok (hC : CtxOk P C) (I : InvC P B col σ a w) (hG : Good P B K res next) {T : TypeId} {parts : Array (Nat × Operand)} {s : S} (hop : o.op = .build T parts)
    (he : arrK C T σ s parts.toList (fun sl => K (fin σ o.dst sl)) = some res) : o.wp P a w next Q := by
  unfold arrK at he
  split at he
  · split at he
    · rename_i r k n hr
      obtain ⟨hio, he⟩ := bif3_some he
      split at he
      · rename_i l hl
        obtain ⟨hF, he⟩ := chk_ok hC.ty he
        have hints := intsC_ok I _ hl
        obtain ⟨hord, hn⟩ := inOrder_at hio
        obtain ⟨⟨fs, _, ⟨f, fs', _, _, _, h, _⟩, _⟩ | ⟨n', e, k', u1, u2, ⟨ie, ze, v1, v2, v3, v4, v5⟩, e5⟩, inf, z, i1, i2, i3, i4, i5⟩ := hF
        · exact absurd h id
        injection e5 with _ e5
        obtain ⟨rfl, rfl⟩ := rowS_inj e5
        have hll : l.length = n + 1 := by
          have := congrArg List.length hints
          simp only [List.length_map] at this
          omega
        have hz : z.cells.toList.length = n + 1 := by
          rw [i5, zcells_len _ (by
            have : ∀ n, zeroable (rowS k n) = true := fun n => by induction n with | zero => rfl | succ n ih => simp [rowS, zeroable, ih]
            simp [zeroable, this])]
          simp only [size, size_rowS]; omega
        have hfill := fill_row (sz := 1) (parts.toList.map fun x => (x.1, a.eval x.2)) 0 [] z.cells.toList
          (fun j x hj => by
            rw [List.getElem?_map] at hj
            cases hp : parts.toList[j]? with
            | none => rw [hp] at hj; cases hj
            | some y => rw [hp] at hj; simp at hj; subst hj; exact hord j y hp)
          (by simp) (by rw [hz, List.length_map]; omega) (fun x hx => by
            simp only [List.mem_map] at hx
            obtain ⟨y, hy, rfl⟩ := hx
            have : a.eval y.2 ∈ parts.toList.map (fun x => a.eval x.2) := List.mem_map.2 ⟨y, hy, rfl⟩
            rw [hints] at this
            obtain ⟨i, _, e⟩ := List.mem_map.1 this
            rw [← e]; rfl)
        have hL : (parts.toList.map fun x => (x.1, a.eval x.2)).flatMap (fun x => x.2.cells.toList) = l.map (Value.int k) := by
          rw [List.flatMap_map]
          have : parts.toList.flatMap (fun x => (a.eval x.2).cells.toList) = (parts.toList.map fun x => a.eval x.2).flatMap (fun v => v.cells.toList) := by rw [List.flatMap_map]
          rw [this, hints, List.flatMap_map]
          exact flat_ints k l
        rw [hL] at hfill
        simp only [List.nil_append, Array.toArray_toList] at hfill
        have hrun : ∀ w', (execOp a.eval o).run P w' = .ok (.value (.agg (l.map (Value.int k)).toArray)) w' := fun w' => by
          have hsz : (Go.sizeOf e).run P w' = .ok 1 w' := by simp [Go.sizeOf, typeInfo, v1, v2, size]
          simp only [execOp, hop, Instr.build, Sem.run_bind, zeroValue, typeInfo, run_program, Result.andThen_ok, i1, i4, Sem.run_pure, run_underlying u1, hsz]
          have q : Instr.fill (fun i => some (i * 1, 1)) z.cells (parts.map fun x => (x.1, a.eval x.2)).toList = some (l.map (Value.int k)).toArray := by simpa using hfill
          rw [q]; rfl
        refine st_wp (op_k1 (by rw [hop]; rfl) I hG hrun (fun d => NewV1 (s := .agg (.pair .unit (rowS k n))) (cs := l.map (.int k)) (fun p => ?_) rfl) he)
        exact ⟨[], l.map (.int k), rfl, rfl, rowEl_rep k w col n l _ hll⟩
      · cases he
    · cases he
  · cases he
theorem MakeMap.ok (hC : CtxOk P C) (I : InvC P B col σ a w) (hG : Good P B K res next) {T : TypeId} (hop : o.op = .makeMap T none)
    (he : (stO (C.ty T) fun s => match s with
      | .map k v => K (fin σ o.dst (.val (.map k v) (.ow .sh) []))
      | _ => none) = some res) : o.wp P a w next Q := by
  unfold stO at he
  split at he
  · rename_i s hT
    simp only at he
    split at he
    · rename_i k v
      refine op_new I hG (v := .map (some w.heap.size)) (w' := w.alloc (.map #[] 0)) (col' := fun d => colNew w col [d]) ?_ (fun d => grown_alloc w col [d] _) (fun d => ?_) he
      · simp [execOp, hop, Instr.makeMap]
      · exact ⟨[.map (some w.heap.size)], ⟨w.heap.size, #[], 0, rfl, heap_alloc_new w _, rfl, fun _ => colNew_new w col [d], fun h => by simp [isOw] at h⟩, rfl⟩
    · cases he
  · cases he
theorem Rep.map_val {k v : S} {w : World} {col : Col} {h : Option (List Nat)} {p : List Nat} {m : M} {xs : El (.map k v)} {cs : List Value} {u : Value} (H : Rep P (.map k v) w col h p m xs cs) (hn : h ≠ some []) (hv : IsVal (.map k v) u cs) :
    ∃ r es clock, u = .map (some r) ∧ w.heap[r]? = some (.map es clock) ∧ ents k v es.toList xs ∧ (isOw m = true → col r = some p) := by
  obtain ⟨r, es, clock, e, h1, h2, h3, _⟩ := hole.get (show hole h cs 1 (∃ r es clock, cs = [.map (some r)] ∧ w.heap[r]? = some (.map es clock) ∧ ents k v es.toList xs ∧ (isOw m = true → col r = some p) ∧ (isOw m = false → col r = some [])) from H) hn
  have hv : cs = [u] := hv
  rw [hv] at e
  injection e with e
  exact ⟨r, es, clock, e, h1, h2, h3⟩
theorem mget_find (k v : S) : ∀ (xs : List (El k × El v)) (x : El k) (i : Nat), (mfind k v xs x i).map (·.2) = mget k v xs x
  | [], _, _ => rfl
  | y :: l, x, i => by
    simp only [mfind, mget]
    split
    · rfl
    · exact mget_find k v l x (i + 1)
theorem Lookup.ok (hC : CtxOk P C) (I : InvC P B col σ a w) (hG : Good P B K res next) {T : TypeId} {m x : Operand} {ok : Bool} (hop : o.op = .lookup T m x ok)
    (he : lookK C T ok ((Ev.rdo σ none m).cont σ) ((Ev.rdo σ none x).whole σ) (fun sl => K (fin σ o.dst sl)) = some res) : o.wp P a w next Q := by
  unfold lookK at he
  split at he
  · rename_i k v mm xs k' mk y hm hx
    obtain ⟨hF, he⟩ := chk_ok hC.ty he
    rw [dif_eq] at he
    split at he
    · rename_i hk
      subst hk
      simp only at he
      obtain ⟨⟨kt, vt, u1, hk, hv⟩, _⟩ := hF
      obtain ⟨h, pth, cs, hn, h1, h2⟩ := I.cont (I.rdo none m) hm
      obtain ⟨r, es, clock, e1, hh, hes, _⟩ := h1.map_val hn h2
      obtain ⟨px, cx, g1, g2⟩ := I.whole (I.rdo none x) hx
      have e2 := g1.key hk.shp g2
      have hf := hk.find w v y xs es.toList hes
      have hmg := mget_find k' v xs y 0
      have hrun : (Instr.lookup T (.map (some r)) (fval k' y) ok).run P w = .ok (if ok then .tuple #[fval v ((mget k' v xs y).getD (zero v)), .bool (mget k' v xs y).isSome] else fval v ((mget k' v xs y).getD (zero v))) w := by
        rw [← hmg]
        cases hq : mfind k' v xs y 0 with
        | none => rw [hq] at hf; simp [Instr.lookup, run_underlying u1, Go.MapKept.run_getObj_map hh, hk.chk, hf, hv.zero]
        | some z => rw [hq] at hf; simp [Instr.lookup, run_underlying u1, Go.MapKept.run_getObj_map hh, hk.chk, hf]
      have hexec : (execOp a.eval o).run P w = .ok (.value (if ok then .tuple #[fval v ((mget k' v xs y).getD (zero v)), .bool (mget k' v xs y).isSome] else fval v ((mget k' v xs y).getD (zero v)))) w := by
        simp [execOp, hop, e1, e2, hrun]
      generalize hg : (mget k' v xs y).getD (zero v) = g at he hexec
      cases ok with
      | false =>
        refine op_value hexec (hG _ _ _ ⟨col, I.fin fun d _ => ?_⟩ he)
        exact Rep.ofScalar hv.shp w col [d] g
      | true =>
        refine op_value hexec (hG _ _ _ ⟨col, I.fin fun d _ => ?_⟩ he)
        refine ⟨_, rfl, fun i c hi => ?_⟩
        match i with
        | 0 =>
          simp only [nth, Option.some.injEq] at hi
          subst hi
          obtain ⟨cs, q1, q2⟩ := Rep.ofScalar (P := P) hv.shp w col [d, 0] g
          exact ⟨_, cs, rfl, q1, q2⟩
        | 1 =>
          simp only [nth, Option.some.injEq] at hi
          subst hi
          exact ⟨_, _, rfl, rfl, rfl⟩
        | i + 2 => simp [nth] at hi
    · cases he
  · cases he
end
structure Mp (w w' : World) (b : Nat) : Prop where
  was : ∃ es c, w.heap[b]? = some (.map es c)
  sz : w'.heap.size = w.heap.size
  other : ∀ b', b' ≠ b → w'.heap[b']? = w.heap[b']?
  same : Out w w'
theorem Mp.cell {w w' : World} {b : Nat} (Z : Mp w w' b) {ad : Addr} {v : Value} (h : w.cell? ad = some v) : w'.cell? ad = some v := by
  by_cases e : ad.block = b
  · obtain ⟨es, c, hh⟩ := Z.was
    unfold World.cell? at h
    rw [e, hh] at h
    cases h
  · unfold World.cell? at h ⊢
    rw [Z.other _ e]; exact h
theorem At.mp {w w' : World} {b b' off : Nat} {cs : List Value} (Z : Mp w w' b) (h : At w b' off cs) : At w' b' off cs := fun i v hv => Z.cell (h i v hv)
theorem Nav.mp {w w' : World} {b : Nat} (Z : Mp w w' b) : ∀ (s : S) (p : List Nat) {cs cs' : List Value} {oa oa' : Option Addr}, Nav w s p cs oa cs' oa' → Nav w' s p cs oa cs' oa' := by
  intro s
  induction s with
  | agg s ih => intro p cs cs' oa oa' h; cases p with | nil => exact h | cons i p => exact ⟨h.1, ih p h.2⟩
  | pair a b iha ihb =>
    intro p cs cs' oa oa' h
    cases p with
    | nil => exact h
    | cons i p =>
      obtain ⟨c1, c2, e, l, h⟩ := h
      refine ⟨c1, c2, e, l, ?_⟩
      match i with
      | 0 => exact iha p h
      | 1 => exact ihb p h
      | _ + 2 => exact absurd h id
  | slice nl s ih =>
    intro p cs cs' oa oa' h
    cases p with
    | nil => exact h
    | cons i p =>
      obtain ⟨ad, n, c, ds, e, l, hs, hl, ha, h⟩ := h
      exact ⟨ad, n, c, ds, e, l, hs, hl, ha.mp Z, ih p h⟩
  | ptr s ih =>
    intro p cs cs' oa oa' h
    cases p with
    | nil => exact h
    | cons i p =>
      obtain ⟨e0, ad, ds, e, hs, hl, ha, h⟩ := h
      exact ⟨e0, ad, ds, e, hs, hl, ha.mp Z, ih p h⟩
  | _ => intro p cs cs' oa oa' h; exact h
theorem Rep.beside {s : S} {w w' : World} {col : Col} {b : Nat} {pth t : List Nat} {m : M} {x : El s} {cs : List Value} {h : Option (List Nat)} (Z : Mp w w' b) (hc : col b = some t) (ht : t ≠ []) (hne : ∀ q, t ≠ pth ++ q) (H : Rep P s w col h pth m x cs) : Rep P s w' col h pth m x cs := by
  refine H.stay ⟨fun _ _ _ h _ => h, fun _ _ h => h, fun b' hb hq => Z.other b' ?_, Nat.le_of_eq Z.sz.symm⟩
  rintro rfl
  rcases hq with hq | ⟨q, hq, _⟩
  · rw [hc] at hq; injection hq with hq; exact ht hq
  · rw [hc] at hq; injection hq with hq; exact hne q hq
theorem Rep.mapped {w w' : World} {col : Col} {b : Nat} (Z : Mp w w' b) : ∀ (s : S) (p : List Nat) {pth : List Nat} {m : M} {x : El s} {y : El (subS s p)} {cs : List Value} {oa oa' : Option Addr}, Rep P s w col none pth m x cs → okP s p x →
    Nav w s p cs oa [.map (some b)] oa' → col b = some (pth ++ p) → pth ≠ [] → Rep P (subS s p) w' col none (pth ++ p) (subM s p m) y [.map (some b)] → Rep P s w' col none pth m (setP s p x y) cs := by
  have base : ∀ (s : S) {pth : List Nat} {m : M} {x : El s} {y : El (subS s [])} {cs : List Value} {oa oa' : Option Addr}, Nav w s [] cs oa [.map (some b)] oa' → Rep P (subS s []) w' col none (pth ++ []) (subM s [] m) y [.map (some b)] → Rep P s w' col none pth m (setP s [] x y) cs := by
    intro s pth m x y cs oa oa' hn h
    obtain ⟨e, _⟩ := Nav_nil' hn
    rw [List.append_nil] at h
    subst e
    cases s <;> exact h
  have hsib : ∀ {pth p : List Nat} {i j : Nat} (q : List Nat), j ≠ i → pth ++ i :: p ≠ pth ++ [j] ++ q := by
    intro pth p i j q hij e
    simp at e
    exact hij e.1.symm
  have happ : ∀ (pth p : List Nat) (i : Nat), pth ++ [i] ++ p = pth ++ i :: p := by intro pth p i; simp
  have hself : ∀ {pth p : List Nat} {i : Nat}, pth ++ i :: p ≠ pth := by
    intro pth p i e
    have := congrArg List.length e
    simp at this
  intro s
  induction s with
  | agg s ih =>
    intro p pth m x y cs oa oa' H ok hn hc hne hy
    cases p with
    | nil => exact base _ hn hy
    | cons i p =>
      obtain ⟨rfl, hn⟩ := hn
      exact ih p (pth := pth ++ [0]) (m := agM m) H ok.2 hn (by simpa using hc) (by simp) (by rw [happ]; exact hy)
  | pair a b' iha ihb =>
    intro p pth m x y cs oa oa' H ok hn hc hne hy
    cases p with
    | nil => exact base _ hn hy
    | cons i p =>
      obtain ⟨c1, c2, e, H1, H2⟩ := H
      have H1 : Rep P a w col none (pth ++ [0]) (prA m) x.1 c1 := H1
      have H2 : Rep P b' w col none (pth ++ [1]) (prB m) x.2 c2 := H2
      obtain ⟨d1, d2, e', l1, hn⟩ := hn
      obtain ⟨rfl, rfl⟩ := List.append_inj (e.symm.trans e') (H1.len.trans l1.symm)
      match i with
      | 0 => exact ⟨c1, c2, e, iha p H1 ok hn (by simpa using hc) (by simp) (by rw [happ]; exact hy), H2.beside Z hc (by simp) (fun q => hsib q (by omega))⟩
      | 1 => exact ⟨c1, c2, e, H1.beside Z hc (by simp) (fun q => hsib q (by omega)), ihb p H2 ok hn (by simpa using hc) (by simp) (by rw [happ]; exact hy)⟩
      | _ + 2 => exact absurd hn id
  | ptr s ih =>
    intro p pth m x y cs oa oa' H ok hn hc hne hy
    cases p with
    | nil => exact base _ hn hy
    | cons i p =>
      obtain ⟨ad, ds, e, hs, ho, hno, ha, H⟩ := H
      have H : Rep P s w col none (pth ++ [0]) (elemM m) x ds := H
      obtain ⟨rfl, ad', ds', e', hs', l, ha', hn⟩ := hn
      rw [e] at e'
      simp at e'
      subst e'
      have := ha.unique ha' (H.len.trans l.symm)
      subst this
      have hb : isOw m = true → ad.block ≠ b := fun hm e => by
        have := (ho hm).1; rw [e, hc] at this; injection this with this; exact hself this
      refine ⟨ad, ds, e, hs, fun hm => ⟨(ho hm).1, (ho hm).2.frame (Z.other _ (hb hm))⟩, fun hm => ⟨(hno hm).1, by rw [Z.sz]; exact (hno hm).2⟩, ha.mp Z, ?_⟩
      exact ih p H ok.2 hn (by simpa using hc) (by simp) (by rw [happ]; exact hy)
  | slice nl s ih =>
    intro p pth m xs y cs oa oa' H ok hn hc hne hy
    cases p with
    | nil => exact base _ hn hy
    | cons i p =>
      obtain ⟨ad, c, e, hlen, hnil, hnone, H⟩ := H
      obtain ⟨ad', n', c', ds', e', hin, hs', l, ha', hn⟩ := hn
      rw [e] at e'
      simp at e'
      obtain ⟨rfl, rfl, rfl⟩ := e'
      obtain ⟨hs, ho, hno, hx⟩ := H ad' rfl
      have hb : isOw m = true → ad'.block ≠ b := fun hm e => by
        have := (ho hm).1; rw [e, hc] at this; injection this with this; exact hself this
      have hlen2 : (xs.set i (setP s p (xs.getD i (zero s)) y) : List (El s)).length = xs.length := List.length_set
      refine ⟨some ad', c, by show cs = [.slice (some ad') (xs.set i (setP s p (xs.getD i (zero s)) y) : List (El s)).length c]; rw [hlen2]; exact e, by show (xs.set i (setP s p (xs.getD i (zero s)) y) : List (El s)).length ≤ c; rw [hlen2]; exact hlen, fun h1 h2 => ?_, fun h => (by cases h), fun ad had => ?_⟩
      · have : xs = [] := by
          have := congrArg List.length (show (xs.set i (setP s p (xs.getD i (zero s)) y) : List (El s)) = [] from h2)
          rw [hlen2] at this
          exact List.length_eq_zero_iff.1 this
        exact hnil h1 this
      injection had with had
      subst had
      refine ⟨hs, fun hm => ⟨(ho hm).1, (ho hm).2.frame (Z.other _ (hb hm))⟩, fun hm => ?_, fun j u hj => ?_⟩
      · rcases hno hm with h | h
        · rw [h] at hin; simp at hin
        · exact .inr ⟨h.1, by rw [Z.sz]; exact h.2⟩
      · have hj : (xs.set i (setP s p (xs.getD i (zero s)) y) : List (El s))[j]? = some u := hj
        by_cases hji : j = i
        · subst hji
          rw [List.getElem?_set_self hin] at hj
          injection hj with hj
          subst hj
          obtain ⟨y0, hy0, ok⟩ := ok
          obtain ⟨ds, ha, H⟩ := hx j y0 hy0
          have H : Rep P s w col none (pth ++ [j]) (elemM m) y0 ds := H
          have := ha.unique ha' (H.len.trans l.symm)
          subst this
          refine ⟨ds, ha.mp Z, ?_⟩
          rw [getD_some hy0]
          exact ih p H ok hn (by simpa using hc) (by simp) (by rw [happ]; exact hy)
        · rw [List.getElem?_set_ne (fun e => hji e.symm)] at hj
          obtain ⟨ds, ha, H⟩ := hx j u hj
          have H : Rep P s w col none (pth ++ [j]) (elemM m) u ds := H
          exact ⟨ds, ha.mp Z, H.beside Z hc (by simp) (fun q => hsib q hji)⟩
  | _ => intro p pth m x y cs oa oa' H ok hn hc hne hy; have hp := hn.1; subst hp; exact base _ hn hy
def isMap : S → Bool
  | .map _ _ => true
  | _ => false
theorem okP_map : ∀ (s : S) (p q : List Nat) {x : El s} {y : El (subS s p)}, okP s p x → okP s q x → isMap (subS s p) = true → okP s q (setP s p x y) := by
  have base : ∀ (s : S) (q : List Nat) {x : El s} {y : El (subS s [])}, okP s q x → isMap (subS s []) = true → okP s q (setP s [] x y) := by
    intro s q x y h hm
    rw [subS_nil] at hm
    cases s <;> first | (simp [isMap] at hm; done) | exact h
  intro s
  induction s with
  | agg s ih => intro p q x y hp hq hm; cases p with
    | nil => exact base _ q hq hm
    | cons i p => cases q with
      | nil => trivial
      | cons j q => exact ⟨hq.1, ih p q hp.2 hq.2 hm⟩
  | ptr s ih => intro p q x y hp hq hm; cases p with
    | nil => exact base _ q hq hm
    | cons i p => cases q with
      | nil => trivial
      | cons j q => exact ⟨hq.1, ih p q hp.2 hq.2 hm⟩
  | pair a b iha ihb =>
    intro p q x y hp hq hm
    cases p with
    | nil => exact base _ q hq hm
    | cons i p => cases q with
      | nil => trivial
      | cons j q =>
        match i, j with
        | 0, 0 => exact iha p q hp hq hm
        | 1, 1 => exact ihb p q hp hq hm
        | 0, 1 => exact hq
        | 1, 0 => exact hq
        | _ + 2, _ => exact absurd hp id
        | 0, _ + 2 => exact absurd hq id
        | 1, _ + 2 => exact absurd hq id
  | slice nl s ih =>
    intro p q x y hp hq hm
    cases p with
    | nil => exact base _ q hq hm
    | cons i p => cases q with
      | nil => trivial
      | cons j q =>
        obtain ⟨y0, hy0, hp⟩ := hp
        obtain ⟨z0, hz0, hq⟩ := hq
        by_cases hji : j = i
        · subst hji
          rw [hy0] at hz0
          injection hz0 with hz0
          subst hz0
          refine ⟨setP s p y0 y, ?_, ih p q hp hq hm⟩
          show (x.set j (setP s p (x.getD j (zero s)) y) : List (El s))[j]? = _
          rw [List.getElem?_set_self (List.getElem?_eq_some_iff.1 hy0).1, getD_some hy0]
        · refine ⟨z0, ?_, hq⟩
          show (x.set i (setP s p (x.getD i (zero s)) y) : List (El s))[j]? = _
          rw [List.getElem?_set_ne (fun e => hji e.symm)]; exact hz0
  | _ => intro p q x y hp hq hm; have hp : p = [] := hp; subst hp; exact base _ q hq hm
theorem InvC.mapped {B : Base} {col : Col} {σ : List Slot} {a : Act} {w w' : World} (I : InvC P B col σ a w) {r b : Nat} {s : S} {m : M} {x : El s} {p : List Nat} {y : El (subS s p)} (hg : gs σ r = .val s m x) (Z : Mp w w' b)
    (hcp : Copy w ⟨s, m, x⟩ p (Act.V a r) (.map (some b))) (hm : isMap (subS s p) = true) (hc : col b = some (r :: p)) (hy : Rep P (subS s p) w' col none (r :: p) (subM s p m) y [.map (some b)]) : InvC P B col (ps σ r (.val s m (setP s p x y))) a w' := by
  have hlt := lt_of_gs hg (by simp)
  have hIr := I.ok r
  rw [hg] at hIr
  obtain ⟨cs, hrep, hval⟩ := hIr
  obtain ⟨ok, cs1, cp, oa, e1, hn, e2⟩ := hcp
  have := hval.unique e1
  subst this
  have e2 : cp = [.map (some b)] := by
    generalize hq : subS s p = q at e2 hm
    cases q <;> first | (simp [isMap] at hm; done) | exact e2
  subst e2
  have hroot := hrep.mapped Z s p ok hn hc (by simp) hy
  refine ⟨by rw [length_ps]; exact I.len, I.dfr, ⟨by rw [Z.sz]; exact I.frm.sz, fun b' hb hq => ?_, I.frm.col, I.frm.out.trans Z.same⟩, fun t => ?_⟩
  · have hcb := I.frm.col b' hb hq
    rw [Z.other b' (by rintro rfl; rw [hc] at hcb; rw [← hcb] at hq; rcases hq with hq | hq <;> cases hq)]
    exact I.frm.mem b' hb hq
  · have hg2 : gs (ps σ r (.val s m (setP s p x y))) r = .val s m (setP s p x y) := gs_ps_same _ _ _ hlt
    by_cases ht : t = r
    · subst ht
      rw [hg2]
      exact ⟨cs, hroot, hval⟩
    · rw [gs_ps_ne _ _ _ _ ht]
      have hk := I.ok t
      have key : ∀ {pt : List Nat} {s : S} {h : Option (List Nat)} {m : M} {x : El s} {cs : List Value}, Rep P s w col h (t :: pt) m x cs → Rep P s w' col h (t :: pt) m x cs := by
        intro pt s h m x cs H
        exact H.beside Z hc (by simp) (fun q e => by simp at e; exact ht e.1.symm)
      have other : ∀ r', r' ≠ r → gs (ps σ r (.val s m (setP s p x y))) r' = gs σ r' := fun r' hr' => gs_ps_ne _ _ _ _ hr'
      have root : ∀ {q pth q' : List Nat} {c : Comp} {hh : Option (List Nat)} {u : Value}, RootIs σ (Act.V a) r q c hh pth q' u → c = ⟨s, m, x⟩ ∧ hh = none ∧ pth = [r] ∧ q' = q ∧ u = Act.V a r := by
        intro q pth q' c hh u K
        cases K with
        | val e => rw [hg] at e; injection e with a b c; subst a; subst b; have c := eq_of_heq c; subst c; exact ⟨rfl, rfl, rfl, rfl, rfl⟩
        | hol e => rw [hg] at e; cases e
        | tup e => rw [hg] at e; cases e
      cases hs : gs σ t with
      | val s1 m1 x1 => rw [hs] at hk; obtain ⟨cs, h1, h2⟩ := hk; exact ⟨cs, key h1, h2⟩
      | hol s1 m1 x1 hp1 => rw [hs] at hk; obtain ⟨h0, cs, h1, h2⟩ := hk; exact ⟨h0, cs, key h1, h2⟩
      | tup cs1 =>
        rw [hs] at hk
        obtain ⟨vs, e, h⟩ := hk
        exact ⟨vs, e, fun i c hi => by obtain ⟨u, cs', h1, h2, h3⟩ := h i c hi; exact ⟨u, cs', h1, key h2, h3⟩⟩
      | dead => trivial
      | undef => rw [hs] at hk; exact hk
      | al r' q =>
        rw [hs] at hk
        obtain ⟨hne, hk⟩ := hk
        refine ⟨hne, ?_⟩
        by_cases hr' : r' = r
        · subst hr'
          rcases hk with ⟨cs2, e, _⟩ | ⟨c, hh', pth', q', u, hr, hcp⟩
          · rw [hg] at e; cases e
          · obtain ⟨rfl, rfl, rfl, rfl, rfl⟩ := root hr
            obtain ⟨okq, c1, c2, oa', k1, k2, k3⟩ := hcp
            exact .inr ⟨_, _, _, _, _, .val hg2, okP_map s p q' ok okq hm, c1, c2, oa', k1, k2.mp Z, k3⟩
        · rcases hk with ⟨cs2, e, e2, e3⟩ | ⟨c, hh', pth', q', u, hr, hcp⟩
          · exact .inl ⟨cs2, (other r' hr').trans e, e2, e3⟩
          · obtain ⟨okq, c1, c2, oa', k1, k2, k3⟩ := hcp
            exact .inr ⟨c, hh', pth', q', u, hr.ctx (other r' hr') rfl, okq, c1, c2, oa', k1, k2.mp Z, k3⟩
      | pl r' q =>
        rw [hs] at hk
        obtain ⟨hne, hk⟩ := hk
        refine ⟨hne, ?_⟩
        obtain ⟨c, hh', pth', q', u, hr, hcp⟩ := hk
        obtain ⟨okq, c1, c2, ad2, k1, k2, k3⟩ := hcp
        by_cases hr' : r' = r
        · subst hr'
          obtain ⟨rfl, rfl, rfl, rfl, rfl⟩ := root hr
          exact ⟨_, _, _, _, _, .val hg2, okP_map s p q' ok okq hm, c1, c2, ad2, k1, k2.mp Z, k3⟩
        · exact ⟨c, hh', pth', q', u, hr.ctx (other r' hr') rfl, okq, c1, c2, ad2, k1, k2.mp Z, k3⟩
theorem eqEl_flat : ∀ (s : S), numS s = true → ∀ x a : El s, (eqEl s x a = true → x = a) := by
  intro s
  induction s with
  | pair a b _ ihb =>
    intro h x y e
    simp only [eqEl, Bool.and_eq_true] at e
    cases a with
    | int k => exact Prod.ext (eq_of_beq e.1) (ihb h _ _ e.2)
    | bool => exact Prod.ext (eq_of_beq e.1) (ihb h _ _ e.2)
    | _ => simp [numS] at h
  | int k => intro h x y e; exact eq_of_beq e
  | bool => intro h x y e; exact eq_of_beq e
  | _ => intro h; simp [numS] at h
theorem eqEl_key {s : S} (hs : keyS s = true) {x a : El s} (e : eqEl s x a = true) : x = a := by
  cases s with
  | int k => exact eq_of_beq e
  | bool => exact eq_of_beq e
  | agg s =>
    suffices H : ∀ x a : El s, eqEl s x a = true → x = a from H x a e
    clear e x a
    intro x a e
    cases s with
    | pair u b =>
      by_cases hu : u = .unit
      · subst hu
        have hs : numS b = true := hs
        simp only [eqEl, Bool.true_and] at e
        exact Prod.ext rfl (eqEl_flat b hs _ _ e)
      · exact eqEl_flat _ (by cases u <;> first | exact absurd rfl hu | exact hs) _ _ e
    | _ => exact eqEl_flat _ hs _ _ e
  | _ => simp [keyS] at hs
theorem same_cells (n : Nat) : ∀ (s : S) (x : El s), ∀ c ∈ fcells s x, Instr.sameBits n c c = true := by
  intro s
  induction s with
  | agg s ih => intro x c h; exact ih x c h
  | pair a b iha ihb => intro x c h; rcases List.mem_append.1 h with h | h; exact iha _ c h; exact ihb _ c h
  | int k => intro x c h; have : c = .int k x := by simpa [fcells] using h
             subst this; cases n <;> simp [Instr.sameBits]
  | bool => intro x c h; have : c = .bool x := by simpa [fcells] using h
            subst this; cases n <;> simp [Instr.sameBits]
  | str => intro x c h; have : c = .string x := by simpa [fcells] using h
           subst this
           have : (x == x) = true := (Go.MapKept.bytes_beq x x).2 rfl
           cases n <;> simp [Instr.sameBits, this]
  | _ => intro x c h; simp [fcells] at h
theorem same_key {s : S} (hs : keyS s = true) (n : Nat) (x : El s) : Instr.sameBits (n + 1) (fval s x) (fval s x) = true := by
  cases s with
  | int k => simp [fval, Instr.sameBits]
  | bool => simp [fval, Instr.sameBits]
  | agg s =>
    simp only [fval, Instr.sameBits, beq_self_eq_true, Bool.true_and, List.all_eq_true]
    intro y hy
    have h := same_cells n s x
    generalize fcells s x = l at h hy
    have : ∀ l : List Value, ∀ y ∈ l.zip l, y.1 = y.2 ∧ y.1 ∈ l := by
      intro l
      induction l with
      | nil => intro y hy; simp at hy
      | cons z l ih =>
        intro y hy
        simp only [List.zip_cons_cons, List.mem_cons] at hy
        rcases hy with rfl | hy
        · exact ⟨rfl, by simp⟩
        · exact ⟨(ih y hy).1, by simp [(ih y hy).2]⟩
    obtain ⟨e1, e2⟩ := this l y (by simpa using hy)
    have := h _ e2
    rw [← e1]; exact this
  | _ => simp [keyS] at hs
theorem mput_none {k v : S} : ∀ {xs : List (El k × El v)} {x : El k} {y : El v} {i : Nat}, mfind k v xs x i = none → mput k v xs x y = xs ++ [(x, y)]
  | [], _, _, _, _ => rfl
  | z :: l, x, y, i, h => by
    simp only [mfind] at h
    split at h
    · cases h
    · rename_i hne
      simp only [mput, if_neg hne, mput_none h, List.cons_append]
theorem mput_some {k v : S} : ∀ {xs : List (El k × El v)} {x : El k} {y : El v} {i j : Nat} {z : El v}, mfind k v xs x i = some (j, z) → ∃ t a, j = i + t ∧ xs[t]? = some (a, z) ∧ eqEl k x a = true ∧ mput k v xs x y = xs.set t (a, y)
  | [], _, _, _, _, _, h => by simp [mfind] at h
  | u :: l, x, y, i, j, z, h => by
    simp only [mfind] at h
    split at h
    · rename_i he
      injection h with h
      injection h with h1 h2
      exact ⟨0, u.1, by omega, by simp [← h2], he, by simp [mput, if_pos he]⟩
    · rename_i hne
      obtain ⟨t, a, e1, e2, e3, e4⟩ := mput_some (y := y) h
      exact ⟨t + 1, a, by omega, by simpa using e2, e3, by simp [mput, if_neg hne, e4]⟩
theorem run_put {k v : S} {T kt vt : TypeId} (u1 : P.underlying T = some (.map kt vt)) (hk : KeyT P k kt) {w : World} {r : Nat} {es : Array MapEntry} {clock : Nat} (hh : w.heap[r]? = some (.map es clock)) {xs : List (El k × El v)} (hes : ents k v es.toList xs) (x : El k) (y : El v) :
    ∃ es' clock', (Instr.mapUpdate T (.map (some r)) (fval k x) (fval v y)).run P w = .ok () { w with heap := w.heap.setIfInBounds r (.map es' clock') } ∧ ents k v es'.toList (mput k v xs x y) := by
  have hf := hk.find w v x xs es.toList hes
  cases hq : mfind k v xs x 0 with
  | none =>
    rw [hq] at hf
    refine ⟨es.push { key := fval k x, val := fval v y, born := clock }, clock + 1, ?_, ?_⟩
    · simp [Instr.mapUpdate, run_underlying u1, Go.MapKept.run_getObj_map hh, hk.chk, hf, Go.MapKept.run_setObj_map _ hh]
    · rw [mput_none hq]
      unfold ents at hes ⊢
      simp [hes]
  | some z =>
    obtain ⟨j, z⟩ := z
    rw [hq] at hf
    obtain ⟨t, a, e1, e2, e3, e4⟩ := mput_some (y := y) hq
    have e1 : j = t := by omega
    subst e1
    have hlen : es.toList.length = xs.length := by have := congrArg List.length hes; simpa [ents] using this
    have hjl : j < xs.length := (List.getElem?_eq_some_iff.1 e2).1
    obtain ⟨e, he⟩ : ∃ e, es.toList[j]? = some e := ⟨_, List.getElem?_eq_getElem (by omega)⟩
    have hent : (e.key, e.val) = (fval k a, fval v z) := by
      have h1 : (es.toList.map fun e => (e.key, e.val))[j]? = some (e.key, e.val) := by rw [List.getElem?_map, he]; rfl
      have h2 : (xs.map fun y => (fval k y.1, fval v y.2))[j]? = some (fval k a, fval v z) := by rw [List.getElem?_map, e2]; rfl
      rw [show (es.toList.map fun e => (e.key, e.val)) = _ from hes, h2] at h1
      injection h1 with h1; exact h1.symm
    injection hent with hkey hval
    have hkx : fval k x = fval k a := by rw [eqEl_key hk.shp e3]
    have hsame : Instr.sameBits 10000 (fval k a) (fval k x) = true := by rw [hkx]; exact same_key hk.shp 9999 a
    have hes2 : es[j]? = some e := by simpa using he
    refine ⟨es.modify j fun e => { e with key := fval k x, val := fval v y }, clock, ?_, ?_⟩
    · simp [Instr.mapUpdate, run_underlying u1, Go.MapKept.run_getObj_map hh, hk.chk, hf, Instr.keyThatStays, hes2, hkey, hsame, Go.MapKept.run_setObj_map _ hh]
    · rw [e4]
      unfold ents at hes ⊢
      apply List.ext_getElem?
      intro i
      have hi : (es.toList.map fun e => (e.key, e.val))[i]? = (xs.map fun y => (fval k y.1, fval v y.2))[i]? := by rw [hes]
      simp only [List.getElem?_map, Array.toList_modify, List.getElem?_modify, List.getElem?_set] at hi ⊢
      by_cases hij : j = i
      · subst hij
        simp [he, hjl, hkx]
      · rw [if_neg hij, ← hi]
        cases es.toList[i]? <;> simp [hij]
section
variable {C : Ctx} {B : Base} {R : Type} {K : List Slot → Option R} {res : R} {next : Act → World → Prop} {Q : Exit → Act → World → Prop} {o : Oper} {σ : List Slot} {a : Act} {w : World} {col : Col}
theorem MapPut.ok (hC : CtxOk P C) (I : InvC P B col σ a w) (hG : Good P B K res next) {T : TypeId} {m x y : Operand} (hop : o.op = .mapUpdate T m x y)
    (he : mapPut C T σ (Ev.rdo σ none m) ((Ev.rdo σ none x).whole σ) ((Ev.rdo σ none y).whole σ) (fun σ => K (fin σ o.dst .undef)) = some res) : o.wp P a w next Q := by
  unfold mapPut at he
  have hm := I.rdo none m
  split at he
  · rename_i r p hsl
    rw [hsl] at hm
    split at he
    · rename_i s mm z k v mo xs k' mk ka v' mv vb hg hcm hx hy
      obtain ⟨hio, he⟩ := bif3_some he
      obtain ⟨hF, he⟩ := chk_ok hC.ty he
      rw [dif_eq] at he
      split at he
      · rename_i hk
        subst hk
        rw [dif_eq] at he
        split at he
        · rename_i hv
          subst hv
          simp only at he
          obtain ⟨u, he, hss, hco⟩ := coer_ok _ _ he
          obtain ⟨⟨kt, vt, u1, hk, hv⟩, _⟩ := hF
          obtain ⟨px, cx, g1, g2⟩ := I.whole (I.rdo none x) hx
          obtain ⟨py, cy, g3, g4⟩ := I.whole (I.rdo none y) hy
          have ex := g1.key hk.shp g2
          have ey : a.eval y = fval v' vb := by
            have h1 := (g3.flat1 hv.shp).2
            have hsv := hv.shp
            have h2 : cy = [a.eval y] := by cases v' <;> first | (simp [isScalar] at hsv; done) | exact g4
            rw [h1] at h2
            injection h2 with h2; exact h2.symm
          have hcopy : Copy w ⟨s, mm, z⟩ p (Act.V a r) (a.eval m) := by
            rcases hm with ⟨cs, e, _⟩ | ⟨c, h, pth, q, u, hr, hcp⟩
            · rw [hg] at e; cases e
            · cases hr with
              | val e => rw [hg] at e; injection e with a b c; subst a; subst b; have c := eq_of_heq c; subst c; exact hcp
              | hol e => rw [hg] at e; cases e
              | tup e => rw [hg] at e; cases e
          obtain ⟨cs, h1, h2⟩ := I.copy (.val hg) hcopy
          have hsub : subS s p = .map k' v' := by
            simp only [Slot.cont, hg, Option.some.injEq] at hcm
            exact congrArg Comp.s hcm
          have hpack : (⟨subS s p, subM s p mm, getP s p z⟩ : Comp) = ⟨.map k' v', mo, xs⟩ := by
            simp only [Slot.cont, hg, Option.some.injEq] at hcm
            exact hcm
          have h12 : ∃ r' es clock, a.eval m = .map (some r') ∧ w.heap[r']? = some (.map es clock) ∧ ents k' v' es.toList xs ∧ col r' = some ([r] ++ p) := by
            have key : ∀ (c : Comp), Rep P c.s w col (subHs none p) ([r] ++ p) c.m c.x cs → IsVal c.s (a.eval m) cs → isOw c.m = true → c = ⟨.map k' v', mo, xs⟩ → ∃ r' es clock, a.eval m = .map (some r') ∧ w.heap[r']? = some (.map es clock) ∧ ents k' v' es.toList xs ∧ col r' = some ([r] ++ p) := by
              intro c h1 h2 h3 e
              subst e
              obtain ⟨r', es, clock, q1, q2, q3, q4⟩ := Rep.map_val h1 (by rw [subHs_none]; simp) h2
              exact ⟨r', es, clock, q1, q2, q3, q4 h3⟩
            exact key ⟨subS s p, subM s p mm, getP s p z⟩ h1 h2 hio hpack
          obtain ⟨r', es, clock, e1, hh, hes, hcol⟩ := h12
          obtain ⟨es', clock', hrun, hes'⟩ := run_put u1 hk hh hes ka vb
          obtain ⟨hset1, hset2⟩ := Go.MapKept.heap_set (o' := .map es' clock') hh
          have Z : Mp w { w with heap := w.heap.setIfInBounds r' (.map es' clock') } r' := ⟨⟨_, _, hh⟩, by simp, fun b' hb => hset2 b' hb, ⟨rfl, rfl, rfl⟩⟩
          have hrep : Rep P (.map k' v') { w with heap := w.heap.setIfInBounds r' (.map es' clock') } col none (r :: p) (subM s p mm) (mput k' v' xs ka vb) [.map (some r')] :=
            ⟨r', es', clock', rfl, hset1, hes', fun _ => hcol, fun h => by rw [hio] at h; cases h⟩
          have I2 := I.mapped hg Z (by rw [← e1]; exact hcopy) (show isMap (subS s p) = true by rw [hsub]; rfl) hcol (hco hrep)
          refine op_skip (w' := { w with heap := w.heap.setIfInBounds r' (.map es' clock') }) ?_ (hG _ _ _ ⟨col, I2.fin (y := .undef) fun d _ => rfl⟩ he)
          simp [execOp, hop, e1, ex, ey, hrun]
        · cases he
      · cases he
    · cases he
  · cases he
end
end Go.Ev

noncomputable section
namespace Go.Ev
variable {P : Program}
theorem find_now (q : IntKind) (v : S) (x : Int) : ∀ (xs : List (Int × El v)) (es : List MapEntry) (i : Nat), ents (.int q) v es xs → Instr.findNow (.int q) (.int q x) es i = some ((mfind (.int q) v xs x i).map fun y => (y.1, fval v y.2))
  | [], es, i, h => by
    have : es = [] := by simpa [ents] using h
    subst this; rfl
  | y :: xs, [], i, h => by simp [ents] at h
  | y :: xs, e :: es, i, h => by
    simp only [ents, List.map_cons, List.cons.injEq, Prod.mk.injEq] at h
    obtain ⟨⟨h1, h2⟩, h3⟩ := h
    have h1 : e.key = .int q y.1 := h1
    have hs : Instr.sameNow (.int q) (.int q x) e.key = some (x == y.1) := by rw [h1]; simp [Instr.sameNow]
    simp only [Instr.findNow, hs, mfind]
    have he : eqEl (.int q) x y.1 = (x == y.1) := rfl
    rw [he]
    cases hb : (x == y.1)
    · simpa using find_now q v x xs es (i + 1) h3
    · simp [h2]
theorem KeyT.int {q : IntKind} {T : TypeId} (hu : P.underlying T = some (.int q)) : KeyT P (.int q) T where
  shp := rfl
  chk := fun w e x => by
    have : ∀ n, (Instr.checkKey e (n + 1) T (.int q x)).run P w = .ok () w := fun n => by simp [Instr.checkKey, run_underlying hu]
    exact this 9999
  find := fun w v x xs es h => by
    have := find_now q v x xs es 0 h
    simp [Instr.findKey, run_underlying hu, fval, this]
theorem find_asking {k : S} {T : TypeId} {w : World} (heq : ∀ x y : El k, (Op.equal T (fval k x) (fval k y)).run P w = .ok (eqEl k x y) w) (v : S) (x : El k) : ∀ (xs : List (El k × El v)) (es : List MapEntry) (i : Nat), ents k v es xs →
    (Instr.findAsking T (fval k x) es i).run P w = .ok ((mfind k v xs x i).map fun y => (y.1, fval v y.2)) w
  | [], es, i, h => by
    have : es = [] := by simpa [ents] using h
    subst this; simp [Instr.findAsking, mfind]
  | y :: xs, [], i, h => by simp [ents] at h
  | y :: xs, e :: es, i, h => by
    simp only [ents, List.map_cons, List.cons.injEq, Prod.mk.injEq] at h
    obtain ⟨⟨h1, h2⟩, h3⟩ := h
    have ih := find_asking heq v x xs es (i + 1) h3
    simp only [Instr.findAsking, h1, h2, Sem.run_bind, heq, Result.andThen_ok, mfind]
    cases hb : eqEl k x y.1
    · simpa using ih
    · simp
theorem KeyT.arr2 {q : IntKind} {T e : TypeId} (hu : P.underlying T = some (.array 2 e)) (he : P.underlying e = some (.int q)) (ht : TInfo P (.int q) e) : KeyT P (.agg (.pair .unit (.pair (.int q) (.int q)))) T where
  shp := rfl
  chk := fun w em x => by
    have hF : Fits P (.int q) e := ⟨he, ht⟩
    have hsz := fun w => hF.sizeOf w
    have hia := fun w => isAgg_not hF (fun t h => by cases h) w
    have : ∀ n, (Instr.checkKey em (n + 2) T (.agg #[.int q x.2.1, .int q x.2.2])).run P w = .ok () w := fun n => by
      simp [Instr.checkKey, run_underlying hu, run_underlying he, hsz, size, part, hia, Std.Legacy.Range.forIn_eq_forIn_range', Std.Legacy.Range.size, List.range', List.forIn_cons]
    exact this 9998
  find := fun w v x xs es h => by
    have hF : Fits P (.int q) e := ⟨he, ht⟩
    have hsz := fun w => hF.sizeOf w
    have hia := fun w => isAgg_not hF (fun t h => by cases h) w
    rw [run_findKey_eq w (by rw [hu])]
    refine find_asking (fun x y => ?_) v x xs es 0 h
    have : ∀ n, (Op.equalIn (n + 2) T (.agg #[.int q x.2.1, .int q x.2.2]) (.agg #[.int q y.2.1, .int q y.2.2])).run P w = .ok (x.2.1 == y.2.1 && x.2.2 == y.2.2) w := fun n => by
      generalize x.2.1 = a
      generalize x.2.2 = b
      generalize y.2.1 = c
      generalize y.2.2 = d
      clear h x y
      simp [Op.equalIn, run_underlying hu, run_underlying he, hsz, size, part, hia, Std.Legacy.Range.forIn_eq_forIn_range', Std.Legacy.Range.size, List.range', List.forIn_cons]
      by_cases h1 : a = c <;> by_cases h2 : b = d <;> simp [h1, h2]
    exact this 9998
end Go.Ev

noncomputable section
namespace Go.Ev
variable {P : Program}
section
variable {C : Ctx} {B : Base} {R : Type} {K : List Slot → Option R} {res : R} {next : Act → World → Prop} {Q : Exit → Act → World → Prop} {o : Oper} {σ : List Slot} {a : Act} {w : World} {col : Col}
theorem Fits.some {s : S} {T : TypeId} (h : Fits P s T) : (P.underlying T).isSome = true := by
  cases s with
  | int k => have h : P.underlying T = _ ∧ _ := h; rw [h.1]; rfl
  | bool => have h : P.underlying T = _ ∧ _ := h; rw [h.1]; rfl
  | str => have h : P.underlying T = _ ∧ _ := h; rw [h.1]; rfl
  | slice nl s => obtain ⟨⟨e, h, _⟩, _⟩ := h; rw [h]; rfl
  | ptr s => obtain ⟨⟨e, h, _⟩, _⟩ := h; rw [h]; rfl
  | agg s => obtain ⟨⟨e, h, _⟩ | ⟨_, _, _, h, _⟩, _⟩ := h <;> (rw [h]; rfl)
  | func a b => obtain ⟨⟨e, f, g, h⟩, _⟩ := h; rw [h]; rfl
  | map a b => obtain ⟨⟨e, f, h, _⟩, _⟩ := h; rw [h]; rfl
  | _ => exact absurd h id
theorem toList_one {α : Type} {x : Array α} {y : α} (h : x.toList = [y]) : x = #[y] := Array.ext' h
theorem toList_two {α : Type} {x : Array α} {y z : α} (h : x.toList = [y, z]) : x = #[y, z] := Array.ext' h
theorem call_ok (hC : CtxOk P C) (I : InvC P B col σ a w) (hG : Good P B K res next) {h : Nat} {c : Call} (hop : o.op = .call c) (he : evalOp C h o σ K = some res) : o.wp P a w next Q := by
  unfold evalOp at he
  rw [hop] at he
  simp only at he
  cases hcal : c.callee with
  | builtin b =>
    rw [hcal] at he
    cases b <;> simp only at he <;> first | (cases he; done) | skip
    all_goals first
      | exact st_wp (Max.ok hC I hG hop hcal (.inl ⟨rfl, rfl⟩) he)
      | exact st_wp (Max.ok hC I hG hop hcal (.inr ⟨rfl, rfl⟩) he)
      | (split at he
         · rename_i x T ha ht
           exact st_wp (Len.ok hC I hG hop hcal (toList_one ha) (toList_one ht) he)
         · cases he)
      | (split at he
         · rename_i x y T T' ha ht
           split at he
           · exact CopyM.ok hC I hG hop hcal (toList_two ha) (toList_two ht) he
           · exact Copy.ok hC I hG hop hcal (toList_two ha) (toList_two ht) he
         · cases he)
      | (split at he
         · rename_i x y T T' ha ht
           obtain ⟨hT, he2⟩ := bif3_some he
           have hT : T = T' := by simpa using hT
           subst hT
           exact Append.ok hC I hG hop hcal (toList_two ha) (toList_two ht) he2
         · cases he)
  | value x =>
    rw [hcal] at he
    cases x with
    | func f =>
      simp only at he
      split at he
      · rename_i σm hm
        exact Call.ok hC I hG hop hcal hm he
      · cases he
    | tmp t => exact CallFn.ok hC I hG hop hcal he
    | const v => exact CallFn.ok hC I hG hop hcal he
    | _ => first | exact CallFn.ok hC I hG hop hcal he | (simp only at he; cases he)
  | invoke x n => rw [hcal] at he; cases he
theorem evalOp_ok (hC : CtxOk P C) (hI : Inv P B σ a w) (hG : Good P B K res next) {h : Nat} (he : evalOp C h o σ K = some res) : o.wp P a w next Q := by
  obtain ⟨col, I⟩ := hI
  cases hop : o.op with
  | call c => exact call_ok hC I hG hop he
  | move x => unfold evalOp at he; rw [hop] at he; exact st_wp (Move.ok hC I hG (.inl hop) he)
  | assign x => unfold evalOp at he; rw [hop] at he; exact Assign.ok hC I hG hop he
  | pick c x y => unfold evalOp at he; rw [hop] at he; exact st_wp (Pick.ok hC I hG hop he)
  | alloc T => unfold evalOp at he; rw [hop] at he; exact Alloc.ok hC I hG hop he
  | box T x =>
    unfold evalOp at he; rw [hop] at he
    cases hd : o.dst with
    | none => rw [hd] at he; cases he
    | some d => rw [hd] at he; exact Box.ok hC I hG hop hd he
  | build T parts =>
    unfold evalOp at he; rw [hop] at he
    simp only at he
    split at he
    · rename_i d s hd hT
      rcases bif3_or he with ⟨_, he⟩ | ⟨hns, he⟩
      · exact ArrBuild.ok hC I hG hop he
      · exact Build.ok hC I hG hop hd hT hns he
    · cases he
  | buildSlice T n parts =>
    unfold evalOp at he; rw [hop] at he
    simp only at he
    split at he
    · rename_i d nl s hd hT
      exact BuildSlice.ok hC I hG hop hd hT he
    · cases he
  | load T x => unfold evalOp at he; rw [hop] at he; exact st_wp (Load.ok hC I hG hop he)
  | store T x v => unfold evalOp at he; rw [hop] at he; exact Store.ok hC I hG hop he
  | nilCheck x => unfold evalOp at he; rw [hop] at he; exact st_wp (NilCheck.ok I hG hop he)
  | binOp op T x y T' =>
    unfold evalOp at he; rw [hop] at he
    simp only at he
    split at he
    · rename_i u v hx hy
      exact st_wp (Bin.ok hC I hG hop hx hy he)
    · cases he
  | unOp op T x => unfold evalOp at he; rw [hop] at he; exact st_wp (Un.ok I hG hop he)
  | convert T0 T x =>
    unfold evalOp at he; rw [hop] at he
    simp only at he
    split at he
    · rename_i s hs
      refine st_wp (Convert.ok hC I hG hop ?_ he)
      exact Fits.some (hC.ty T0 s hs)
    · cases he
  | fieldAddr T x j => unfold evalOp at he; rw [hop] at he; exact st_wp (FieldAddr.ok hC I hG hop he)
  | field T x j => unfold evalOp at he; rw [hop] at he; exact st_wp (Field.ok hC I hG hop he)
  | indexAddr T x i => unfold evalOp at he; rw [hop] at he; exact st_wp (IndexAddr.ok hC I hG hop he)
  | index T x i => unfold evalOp at he; rw [hop] at he; exact st_wp (Index.ok hC I hG hop he)
  | slice T x lo hi mx =>
    unfold evalOp at he; rw [hop] at he
    cases mx with
    | some m => cases he
    | none =>
      simp only at he
      split at he
      · exact SliceTake.ok hC I hG hop he
      · exact SliceFrz.ok hC I hG hop he
      · exact st_wp (Slice.ok hC I hG hop he)
  | extract x j => unfold evalOp at he; rw [hop] at he; exact st_wp (Extract.ok I hG hop he)
  | makeFunc fn first caps =>
    unfold evalOp at he; rw [hop] at he
    cases fn with
    | func f => exact MakeFunc.ok hC I hG hop he
    | _ => cases he
  | makeMap T m =>
    unfold evalOp at he; rw [hop] at he
    cases m with
    | none => exact MakeMap.ok hC I hG hop he
    | some m => cases he
  | lookup T m x ok => unfold evalOp at he; rw [hop] at he; exact Lookup.ok hC I hG hop he
  | mapUpdate T m x y => unfold evalOp at he; rw [hop] at he; exact MapPut.ok hC I hG hop he
  | makeSlice T n c => unfold evalOp at he; rw [hop] at he; exact MakeSlice.ok hC I hG hop he
  | _ => unfold evalOp at he; rw [hop] at he; cases he
end
end Go.Ev

noncomputable section
namespace Go.Ev
universe u
variable {P : Program}
def Fixed (fx : List (Nat × Value)) (a : Act) : Prop := ∀ t v, (t, v) ∈ fx → Act.V a t = v
theorem memN_iff {n : Nat} : ∀ {l : List Nat}, memN n l = true ↔ n ∈ l
  | [] => by simp [memN]
  | m :: l => by
    have ih := memN_iff (n := n) (l := l)
    unfold memN
    cases h : Nat.beq n m
    · have : n ≠ m := fun e => by rw [e, Nat.beq_refl] at h; cases h
      simp [bif3, ih, this]
    · have : n = m := Nat.eq_of_beq_eq_true h
      simp [bif3, this]
theorem Oper.wp_keep {o : Oper} {a : Act} {w : World} {next : Act → World → Prop} {Q : Exit → Act → World → Prop} (h : o.wp P a w next Q) :
    o.wp P a w (fun a' w' => next a' w' ∧ ∀ t, o.dst ≠ some t → Act.V a' t = Act.V a t) Q := by
  have key : ∀ (a0 : Act) v, a0.tmps = a.tmps → ∀ t, o.dst ≠ some t → Act.V (a0.put o.dst v) t = Act.V a t := by
    intro a0 v h0 t ht
    have e : Act.V a0 t = Act.V a t := by unfold Act.V; rw [h0]
    cases hd : o.dst with
    | none => exact e
    | some d =>
      have : t ≠ d := fun e => ht (by rw [hd, e])
      rw [V_put_ne this]; exact e
  unfold Oper.wp at *
  generalize (execOp a.eval o).run P w = r at *
  cases r with
  | ok n w' =>
    cases n <;> simp only [Oper.upon] at h ⊢
    case value v => exact ⟨h, key a v rfl⟩
    case skip => exact ⟨h, key a _ rfl⟩
    case defer d => exact ⟨h, key _ _ rfl⟩
    case enter f args => exact Calls.mono h (fun e w'' he => by cases e <;> first | exact ⟨he, key a _ rfl⟩ | exact he)
    case row row args => exact Rows.mono h (fun v w'' he => ⟨he, key a v rfl⟩)
  | halt x w' => cases x <;> simp only [Oper.upon] at h ⊢ <;> exact h
section
variable {C : Ctx} {B : Base} {R : Type} {K : List Slot → Option R} {res : R} {Q : Exit → Act → World → Prop}
def InvF (P : Program) (B : Base) (fx : List (Nat × Value)) (σ : List Slot) (a : Act) (w : World) : Prop := Inv P B σ a w ∧ Fixed fx a
def GoodF (P : Program) (B : Base) (fx : List (Nat × Value)) (K : List Slot → Option R) (res : R) (next : Act → World → Prop) : Prop := ∀ σ a w, InvF P B fx σ a w → K σ = some res → next a w
theorem memO_false {l : List Nat} {d : Option Nat} (h : memO l d = false) : ∀ t, t ∈ l → d ≠ some t := by
  intro t ht e
  subst e
  have : memN t l = false := h
  rw [memN_iff.2 ht] at this
  cases this
theorem nth_get {α : Type u} : ∀ (l : List α) (i : Nat), nth l i = l[i]?
  | [], _ => rfl
  | a :: l, 0 => rfl
  | a :: l, i + 1 => by simp [nth, nth_get l i]
theorem V_get {a : Act} {t : Nat} {v : Value} (h : Act.V a t = v) (hl : t < a.tmps.size) : a.tmps[t]? = some v := by
  unfold Act.V at h
  rw [Array.getD_eq_getD_getElem?, Array.getElem?_eq_getElem hl] at h
  rw [Array.getElem?_eq_getElem hl]
  simpa using h
theorem InvC.pull1 {B : Base} {col : Col} {a : Act} {w : World} {σ : List Slot} (j : Nat) (I : InvC P B col σ a w) : ∃ col', InvC P B col' (Ev.pull1 σ j) a w ∧ ∀ b, Quiet (col b) → col' b = col b := by
  unfold Ev.pull1
  split
  · rename_i r p hj
    split
    · rename_i s m x hg
      have hk := I.ok j
      rw [hj] at hk
      obtain ⟨hne, hal⟩ := hk
      split
      · exact ⟨col, I, fun _ _ => rfl⟩
      · rename_i hpne
        have hpn : p ≠ [] := fun e => hpne e
        have hl : r < σ.length := lt_of_gs hg (by simp)
        have hcp : Copy w ⟨s, m, x⟩ p (Act.V a r) (Act.V a j) := by
          rcases hal with ⟨cs0, e, hp, e2⟩ | ⟨c0, hh, pth, q, u, hr, hcp⟩
          · rw [hg] at e; cases e
          · obtain ⟨rfl, rfl, rfl, rfl, rfl⟩ := Roots.of (.inl ⟨hg, rfl⟩) hr
            exact hcp
        obtain ⟨cs, h1, h2⟩ := I.copy (.val hg) hcp
        rw [subHs_none] at h1
        have h1 : Rep P (subS s p) w col none (r :: p) (subM s p m) (getP s p x) cs := h1
        have hgs : gs (ps (σ.map (keepA r s p)) r (.hol s m x p)) r = .hol s m x p := gs_ps_same _ _ _ (by simpa using hl)
        have I1 := I.opened hg hpn hcp.1
        have I2 := I1.recolX (p := r :: p) ⟨r, p, rfl, .inr ⟨s, m, x, p, hgs, rfl⟩⟩ (moveF [j])
        have hrep : Rep P (subS s p) w (reCol col (moveF [j]) (r :: p)) none [j] (subM s p m) (getP s p x) cs := h1.move (by simp)
        exact ⟨_, I2.replace (r := j) (y := .val (subS s p) (subM s p m) (getP s p x)) (fun _ _ _ => rfl) (fun _ _ h => h) ⟨cs, hrep, h2⟩ (fun _ => rfl), fun b hb => reCol_quiet _ _ (by simp) hb⟩
    · exact ⟨col, I, fun _ _ => rfl⟩
  · exact ⟨col, I, fun _ _ => rfl⟩
theorem InvC.frz1 {B : Base} {col : Col} {a : Act} {w : World} {σ : List Slot} (j : Nat) (I : InvC P B col σ a w) : ∃ col', InvC P B col' (Ev.frz1 σ j) a w ∧ ∀ b, Quiet (col b) → col' b = col b := by
  unfold Ev.frz1
  split
  · rename_i r p hj
    split
    · rename_i s m x hg
      have hk := I.ok j
      rw [hj] at hk
      obtain ⟨hne, hal⟩ := hk
      have hl : r < σ.length := lt_of_gs hg (by simp)
      have I2 := I.less hg (setM_le s p m .sh (noOwn_le rfl))
      rcases hal with ⟨cs, e, hp, e2⟩ | ⟨c0, hh, pth, q, u, hr, hcp⟩
      · rw [hg] at e; cases e
      · obtain ⟨rfl, rfl, rfl, rfl, rfl⟩ := Roots.of (.inl ⟨hg, rfl⟩) hr
        obtain ⟨cs, h1, h2⟩ := I2.copy (c := ⟨s, setM s q m .sh, x⟩) (p := q) (.val (gs_ps_same _ _ _ hl)) hcp
        rw [subHs_none] at h1
        have hno : noOwn (subM s q (setM s q m .sh)) = true := le_noOwn (subM_setM s q m .sh) rfl
        exact ⟨_, I2.replace (r := j) (y := .val (subS s q) .sh (getP s q x)) (fun _ _ _ => rfl) (fun _ _ h => h) ⟨cs, h1.toSh hno, h2⟩ (fun _ => rfl), fun b hb => reCol_quiet _ _ (by simp) hb⟩
    · exact ⟨col, I, fun _ _ => rfl⟩
  · exact ⟨col, I, fun _ _ => rfl⟩
theorem InvC.frzA {B : Base} {a : Act} {w : World} : ∀ (l : List Operand) (n : Nat) {col : Col} {σ : List Slot}, InvC P B col σ a w → ∃ col', InvC P B col' (Ev.frzA n l σ) a w ∧ ∀ b, Quiet (col b) → col' b = col b
  | [], n, col, σ, I => ⟨col, I, fun _ _ => rfl⟩
  | x :: l, n, col, σ, I => by
    cases x with
    | tmp t =>
      simp only [Ev.frzA]
      cases Nat.beq (n % 2) 1
      · exact InvC.frzA l (n / 2) I
      · obtain ⟨c1, I1, h1⟩ := I.frz1 t
        obtain ⟨c2, I2, h2⟩ := InvC.frzA l (n / 2) I1
        exact ⟨c2, I2, fun b hb => by rw [h2 b (by rw [h1 b hb]; exact hb), h1 b hb]⟩
    | _ => exact InvC.frzA l (n / 2) I
theorem Inv.pulled {B : Base} {a : Act} {w : World} {σ : List Slot} (h : Nat) (op : Op) (I : Inv P B σ a w) : Inv P B (pullA h op σ) a w := by
  unfold pullA
  cases ltb 4095 h
  · simp only [bif3]
    cases (Nat.beq h 4 || ltb 7 h)
    · exact I
    · simp only [bif3]
      split
      · split
        · rename_i t _
          obtain ⟨col, I⟩ := I
          obtain ⟨col', I, _⟩ := I.pull1 t
          exact ⟨col', I⟩
        · exact I
      · exact I
  · simp only [bif3]
    split
    · rename_i c
      obtain ⟨col, I⟩ := I
      obtain ⟨col', I, _⟩ := I.frzA c.args.toList ((h - 4096) % 256)
      exact ⟨col', I⟩
    · exact I
theorem clear_none (w : World) (t ty : TypeId) {e : TypeId} (ht : P.underlying t = some (.slice e)) (a : Option Addr) (c : Nat) : (Builtin.clear_ #[t] ty #[.slice a 0 c]).run P w = .ok (.tuple #[]) w := by
  cases a <;> simp [Builtin.clear_, run_underlying ht]
theorem clear_some (w : World) {w' : World} (t ty : TypeId) {e : TypeId} {z : Value} {i : TypeInfo} (ht : P.underlying t = some (.slice e)) (hi : P.info? e = some i) (hz : i.zero = some z) (ad : Addr) (n c : Nat) (hn : 0 < n) (hs : (storeCells ad (Builtin.zeroCells z.cells n).toList).run P w = .ok () w') :
    (Builtin.clear_ #[t] ty #[.slice (some ad) n c]).run P w = .ok (.tuple #[]) w' := by
  obtain ⟨m, rfl⟩ : ∃ m, n = m + 1 := ⟨n - 1, by omega⟩
  simp [Builtin.clear_, run_underlying ht, zeroValue, typeInfo, hi, hz, hs]
theorem ClearPair.ok (hC : CtxOk P C) {a : Act} {w : World} {col : Col} {σ : List Slot} {o o2 : Oper} (I : InvC P B col σ a w) (he : clearK C o o2 σ K = some res) :
    o.guard = none ∧ o2.guard = none ∧ o2.dst = none ∧ ∃ v, (execOp a.eval o).run P w = .ok (.value v) w ∧ ∃ v2 w', (execOp (a.put o.dst v).eval o2).run P w = .ok (.value v2) w' ∧ ∃ σ', Inv P B σ' (a.put o.dst v) w' ∧ K σ' = some res := by
  unfold clearK at he
  split at he
  · rename_i T x lo d c hop hd hg hop2 hd2 hg2
    refine ⟨hg, hg2, hd2, ?_⟩
    split at he
    · rename_i t T2 hcal hargs hts
      have hargs := toList_one hargs
      have hts := toList_one hts
      have hx := I.rdo none x
      generalize Ev.rdo σ none x = slx at he hx
      split at he
      · rename_i r
        split at he
        · rename_i nl k m xs hgr
          obtain ⟨hb, he1⟩ := bif3_some he
          clear he
          simp only [Bool.and_eq_true] at hb
          obtain ⟨⟨⟨htd, hdl⟩, hdead⟩, how⟩ := hb
          have htd : t = d := Nat.eq_of_beq_eq_true htd
          subst htd
          have hdead := isDead_eq hdead
          obtain ⟨hF, he2⟩ := chk_ok hC.ty he1
          obtain ⟨hF2, he3⟩ := chk_ok hC.ty he2
          obtain ⟨l, he, hlo⟩ := withIntO_some I he3
          clear he1 he2 he3
          split at he
          · rename_i h0
            split at he
            · rename_i h1
              obtain ⟨⟨e, hu, hFe⟩, _⟩ := hF
              obtain ⟨⟨e2, hu2, hFe2⟩, _⟩ := hF2
              have hv := AlOk.self hgr hx
              have hlt : r < σ.length := lt_of_gs hgr (by simp)
              have hle : le (.ow .sh) m = true := by cases m <;> first | rfl | (simp [isOw] at how)
              have I2 := I.less hgr hle
              generalize hc2 : reCol col (lessF (.slice nl (.int k)) (.ow .sh) [r]) [r] = col2 at I2
              have hk := I2.ok r
              rw [gs_ps_same _ _ _ hlt] at hk
              obtain ⟨cs, hr, hval⟩ := hk
              rw [← hv] at hval
              obtain ⟨a0, c0, ev, es, k1, k2, k3, k4⟩ := Rep.slice_val hr (by simp) hval
              have k1 : xs.length ≤ c0 := k1
              have ev : a.eval x = .slice a0 xs.length c0 := ev
              have hrun := run_sliced (P := P) (w := w) (nl := nl) (hi := none) (h := (xs.length : Int)) hu hFe (a0 := a0) (n := xs.length) (c := c0) hlo rfl h0 h1 (by omega)
              have hne : t ≠ r := by
                rintro rfl
                rw [hgr] at hdead; cases hdead
              refine ⟨_, by simp only [execOp, hop]; rw [ev]; simp only [Option.map_none] at hrun; simp [hrun]; rfl, ?_⟩
              rw [hd]
              have hl : l.toNat ≤ xs.length := by omega
              generalize hv1 : (Value.slice (if c0 = l.toNat then a0 else a0.map (·.add (l.toNat * size (.int k)))) (xs.length - l.toNat) (c0 - l.toNat)) = v1
              have hev : (a.put (some t) v1).eval (.tmp t) = v1 := by
                show Act.V (a.put (some t) v1) t = v1
                exact V_put_same (by rw [I.len]; exact ltb_lt hdl)
              have hex : ∀ {w' : World}, (Builtin.clear_ #[T2] o2.type #[v1]).run P w = .ok (.tuple #[]) w' → (execOp (a.put (some t) v1).eval o2).run P w = .ok (.value (.tuple #[])) w' := by
                intro w' hr'
                simp [execOp, hop2, resolve, hcal, hargs, hts, invoke, builtin, hev, hr']
              have I3 := I2.dead r
              have I4 : InvC P B col2 (Ev.put (Ev.put (ps σ r (.val (.slice nl (.int k)) (.ow .sh) xs)) r .dead) t .dead) (a.put (some t) v1) w := I3.put (d := t) (v := v1) (y := .dead) trivial
              have done : ∀ (w4 : World), (Builtin.clear_ #[T2] o2.type #[v1]).run P w = .ok (.tuple #[]) w4 → InvC P B col2 (Ev.put (Ev.put (ps σ r (.val (.slice nl (.int k)) (.ow .sh) xs)) r .dead) t .dead) (a.put (some t) v1) w4 →
                  (∃ cs, Rep P (.slice nl (.int k)) w4 col2 none [r] (.ow .sh) (xs.take l.toNat ++ List.replicate (xs.length - l.toNat) (0 : Int)) cs ∧ IsVal (.slice nl (.int k)) (Act.V a r) cs) → ∃ v2 w', (execOp (a.put (some t) v1).eval o2).run P w = .ok (.value v2) w' ∧ ∃ σ', Inv P B σ' (a.put (some t) v1) w' ∧ K σ' = some res := by
                intro w4 hr4 I5 hrep
                refine ⟨_, _, hex hr4, _, ⟨col2, I5.replace (r := r) (y := .val (.slice nl (.int k)) (.ow .sh) (xs.take l.toNat ++ List.replicate (xs.length - l.toNat) (0 : Int))) (fun _ _ _ => rfl) (fun _ _ h => h) ?_ (fun _ => rfl)⟩, he⟩
                rw [V_put_ne (fun e => hne e.symm)]
                exact hrep
              have hlen : (xs.take l.toNat ++ List.replicate (xs.length - l.toNat) (0 : Int)).length = xs.length := by
                rw [List.length_append, List.length_take, List.length_replicate]; omega
              rcases Nat.eq_zero_or_pos (xs.length - l.toNat) with hz | hz
              · -- nothing is cleared
                have hxs : xs.take l.toNat ++ List.replicate (xs.length - l.toNat) (0 : Int) = xs := by
                  rw [hz, List.replicate_zero, List.append_nil]
                  exact List.take_of_length_le (by omega)
                refine done w ?_ I4 ?_
                · rw [← hv1, hz]; exact clear_none w T2 o2.type hu2 _ _
                · rw [hxs]
                  exact ⟨cs, hr, by rw [← hv]; exact hval⟩
              · cases a0 with
                | none =>
                  obtain ⟨hx0, _⟩ := k3 rfl
                  rw [hx0] at hz; simp at hz
                | some ad0 =>
                  obtain ⟨hs0, hown0, _, hx0⟩ := k4 ad0 rfl
                  have hs0 := hs0 (.inr rfl)
                  obtain ⟨hcol0, hob0⟩ := hown0 rfl
                  obtain ⟨inf, z, i1, i2, i3, i4, i5⟩ := Fits.info hFe2
                  have hsz1 : size (.int k) = 1 := rfl
                  have hzc : (Builtin.zeroCells z.cells (xs.length - l.toNat)).toList = List.replicate (xs.length - l.toNat) (Value.int k 0) := by
                    have hc : z.cells = #[Value.int k 0] := Array.ext' i5
                    rw [hc]
                    simp [Builtin.zeroCells]
                    apply List.ext_getElem
                    · simp
                    · intro i h1 h2
                      simp [Nat.mod_one]
                  obtain ⟨w', hst, W⟩ := Wr.mk' (P := P) (w := w) (ad := ⟨ad0.block, ad0.off + l.toNat, none⟩) (ns := List.replicate (xs.length - l.toNat) (Value.int k 0)) rfl (by
                    obtain ⟨arr, t, g1, g2⟩ := hob0
                    refine ⟨arr, t, g1, ?_⟩
                    simp only [List.length_replicate]
                    rw [hsz1] at g2; omega) (by
                    intro v hv'
                    rw [List.eq_of_mem_replicate hv']; rfl)
                  have hrunc : (Builtin.clear_ #[T2] o2.type #[v1]).run P w = .ok (.tuple #[]) w' := by
                    rw [← hv1, if_neg (by omega)]
                    simp only [Option.map_some]
                    rw [addr_add hs0, hsz1, Nat.mul_one]
                    exact clear_some w T2 o2.type hu2 i1 i4 _ _ _ hz (by rw [hzc]; exact hst)
                  have hcol0 : col2 ad0.block = some [r] := hcol0
                  have hfd : (gs (Ev.put (Ev.put (ps σ r (.val (.slice nl (.int k)) (.ow .sh) xs)) r .dead) t .dead) r).isRoot = false := by rw [gs_put_ne (fun e => hne e.symm), gs_put_dead]; rfl
                  have I5 := I4.wrOff (FreeX.of (q := []) hfd) (ad := ⟨ad0.block, ad0.off + l.toNat, none⟩) hcol0 W
                  refine done w' hrunc I5 ⟨_, ?_, by rw [← hv]; exact hval⟩
                  have hes : cs = [Value.slice (some ad0) xs.length c0] := es
                  rw [hes]
                  refine ⟨some ad0, c0, by rw [hlen], by rw [hlen]; exact k1, fun h1 h2 => ?_, fun h => (by cases h), fun ad had => ?_⟩
                  · have : xs.length = 0 := by rw [← hlen, h2]; rfl
                    omega
                  · injection had with had
                    subst had
                    refine ⟨fun _ => hs0, fun _ => ⟨hcol0, W.own _ hob0⟩, fun h => (by simp [isOw] at h), fun i y hi => ?_⟩
                    refine ⟨[Value.int k y], fun j v hj => ?_, rfl⟩
                    have hj0 : j = 0 := by
                      rcases Nat.eq_zero_or_pos j with h | h
                      · exact h
                      · rw [List.getElem?_eq_none (by simp; omega)] at hj; cases hj
                    subst hj0
                    simp only [List.getElem?_cons_zero, Option.some.injEq] at hj
                    subst hj
                    have hil : i < xs.length := by
                      rw [← hlen]
                      rcases Nat.lt_or_ge i (xs.take l.toNat ++ List.replicate (xs.length - l.toNat) (0 : Int)).length with h | h
                      · exact h
                      · rw [List.getElem?_eq_none h] at hi; cases hi
                    rw [hsz1, Nat.mul_one, Nat.add_zero]
                    rcases Nat.lt_or_ge i l.toNat with h | h
                    · rw [List.getElem?_append_left (by rw [List.length_take]; omega), List.getElem?_take_of_lt h] at hi
                      rw [W.out (ad0.off + i) (.inl (by simp only; omega))]
                      obtain ⟨ds, j1, j2⟩ := hx0 i y hi
                      have j2 : ds = [Value.int k y] := j2
                      subst j2
                      have := j1 0 _ rfl
                      rw [hsz1, Nat.mul_one, Nat.add_zero] at this
                      exact this
                    · rw [List.getElem?_append_right (by rw [List.length_take]; omega), List.length_take, Nat.min_eq_left hl, List.getElem?_replicate] at hi
                      split at hi
                      · injection hi with hi
                        subst hi
                        have := W.inn (i - l.toNat) (Value.int k 0) (by rw [List.getElem?_replicate, if_pos (by omega)])
                        simp only at this
                        rw [Nat.add_assoc, Nat.add_sub_cancel' h] at this
                        exact this
                      · cases hi
            · cases he
          · cases he
        · cases he
      · cases he
    · cases he
  · cases he
theorem evalOps_ok (hC : CtxOk P C) {fx : List (Nat × Value)} (hfx : ∀ t v, (t, v) ∈ fx → t ∈ C.fix) {rid : Nat} {ops : Array Oper} (hG : GoodF P B fx K res (fun a w => Q .normal a w)) : ∀ (rest : List Oper) (i : Nat), (∀ j, rest[j]? = ops[i + j]?) →
    ∀ (σ : List Slot) (a : Act) (w : World), InvF P B fx σ a w → evalOps C rid ops.toList i rest σ K = some res → wpOps P ops Q (List.range' i rest.length) a w
  | [], i, _, σ, a, w, hI, he => hG σ a w hI he
  | o :: rest, i, hr, σ, a, w, hI, he => by
    have ho : ops[i]? = some o := by have := hr 0; simpa using this.symm
    have ih := evalOps_ok hC hfx (rid := rid) hG rest (i + 1) (fun j => by have := hr (j + 1); rw [List.getElem?_cons_succ] at this; rw [this]; congr 1; omega)
    unfold evalOps at he
    have hfix : memO C.fix o.dst = false := by
      cases h : memO C.fix o.dst
      · rfl
      · rw [h] at he; cases he
    rw [hfix] at he
    simp only [bif3] at he
    have hkeep0 : ∀ t v, (t, v) ∈ fx → o.dst ≠ some t := fun t v h => memO_false hfix t (hfx t v h)
    rcases bif3_or he with ⟨_, he⟩ | ⟨_, he⟩
    · cases rest with
      | nil => cases he
      | cons o2 rest2 =>
        have ho2 : ops[i + 1]? = some o2 := by have := hr 1; simpa using this.symm
        have ih2 := evalOps_ok hC hfx (rid := rid) hG rest2 (i + 2) (fun j => by have := hr (j + 2); rw [List.getElem?_cons_succ, List.getElem?_cons_succ] at this; rw [this]; congr 1; omega)
        obtain ⟨col, I⟩ := hI.1
        obtain ⟨q1, q2, q3, v, r1, v2, w', r2, σ', I', hk⟩ := ClearPair.ok hC I he
        have hw1 : ∀ y, Region.wanted o y = true := fun y => by simp [Region.wanted, q1]
        have hw2 : ∀ y, Region.wanted o2 y = true := fun y => by simp [Region.wanted, q2]
        simp only [List.length_cons, List.range'_succ, wpOps, ho, hw1, if_true]
        refine .inl (op_value r1 ?_)
        simp only [wpOps, ho2, hw2, if_true]
        refine .inl (op_value r2 ?_)
        rw [q3]
        exact ih2 σ' _ w' ⟨I', fun t u h => by
          have e := hkeep0 t u h
          show Act.V (a.put o.dst v) t = u
          cases hdd : o.dst with
          | none => exact hI.2 t u h
          | some d => rw [V_put_ne (fun e' => e (by rw [hdd, e']))]; exact hI.2 t u h⟩ hk
    have hkeep : ∀ t v, (t, v) ∈ fx → o.dst ≠ some t := fun t v h => memO_false hfix t (hfx t v h)
    have run : ∀ σ, Inv P B σ a w → evalOp C (C.hint rid i) o (pullA (C.hint rid i) o.op σ) (fun σ => evalOps C rid ops.toList (i + 1) rest σ K) = some res → Region.wanted o (yielded ops a.tmps) = true → wpOps P ops Q (List.range' i (o :: rest).length) a w := by
      intro σ hI' he hw
      have h1 : o.wp P a w (fun a' w' => ∃ σ', Inv P B σ' a' w' ∧ evalOps C rid ops.toList (i + 1) rest σ' K = some res) Q :=
        evalOp_ok hC (hI'.pulled _ _) (fun σ' a' w' h1 h2 => ⟨σ', h1, h2⟩) he
      have h2 := Oper.wp_keep h1
      simp only [List.length_cons, List.range'_succ, wpOps, ho, hw, if_true]
      refine .inl (Go.Oper.wp_mono (fun a' w' h => ?_) h2)
      obtain ⟨⟨σ', g1, g2⟩, g3⟩ := h
      exact ih σ' a' w' ⟨g1, fun t v h => (g3 t (hkeep t v h)).trans (hI.2 t v h)⟩ g2
    have skip : ∀ σ, Inv P B σ a w → evalOps C rid ops.toList (i + 1) rest (fin σ o.dst .undef) K = some res → Region.wanted o (yielded ops a.tmps) = false → wpOps P ops Q (List.range' i (o :: rest).length) a w := by
      intro σ hI' he hw
      simp only [List.length_cons, List.range'_succ, wpOps, ho, hw]
      obtain ⟨col, I⟩ := hI'
      refine ih (fin σ o.dst .undef) _ w ⟨⟨col, I.fin (v := Go.undef) (fun d _ => rfl)⟩, fun t v h => ?_⟩ he
      have hd := hkeep t v h
      cases hdd : o.dst with
      | none => exact hI.2 t v h
      | some d => rw [V_put_ne (fun e => hd (by rw [hdd, e]))]; exact hI.2 t v h
    cases hg : o.guard with
    | none =>
      rw [hg] at he
      exact run σ hI.1 he (by simp [Region.wanted, hg])
    | some jb =>
      obtain ⟨j, b⟩ := jb
      rw [hg] at he
      simp only at he
      split at he
      · cases he
      · rename_i t hgt
        have ht : (ops[j]?).bind (·.dst) = some t := by
          unfold guardOf at hgt
          rw [nth_get] at hgt
          have e : ops.toList[j]? = ops[j]? := Array.getElem?_toList ..
          rw [e] at hgt
          cases h : ops[j]? with
          | none => rw [h] at hgt; cases hgt
          | some oj => rw [h] at hgt; simpa using hgt
        obtain ⟨col, I⟩ := hI.1
        split at he
        · rename_i hs
          have hk := I.ok t
          rw [hs] at hk
          have hl : t < a.tmps.size := by rw [I.len]; exact lt_of_gs hs (by simp)
          have hv := V_get hk hl
          refine skip σ hI.1 he ?_
          simp [Region.wanted, hg, yielded, ht, hv, Go.undef]
        · rename_i m x hs
          have hk := I.ok t
          rw [hs] at hk
          obtain ⟨cs, h1, h2⟩ := hk
          have hV := h1.bool_val (by simp) h2
          have hl : t < a.tmps.size := by rw [I.len]; exact lt_of_gs hs (by simp)
          have hv := V_get hV hl
          have hw : Region.wanted o (yielded ops a.tmps) = (x == b) := by
            simp [Region.wanted, hg, yielded, ht, hv]
          have I2 : ∀ y, y = x → Inv P B (ps σ t (V1 .bool y)) a w := fun y hy => by
            subst hy
            exact ⟨col, I.remode hs (fun _ _ _ => rfl) (fun _ _ h => h) ⟨cs, h1, h2⟩⟩
          split at he
          · rename_i hx
            have hx : x = true := hx
            cases b
            · exact skip _ (I2 true hx.symm) he (by rw [hw, hx]; rfl)
            · exact run _ (I2 true hx.symm) he (by rw [hw, hx]; rfl)
          · rename_i hx
            have hx : x = false := by cases x; rfl; exact absurd rfl hx
            cases b
            · exact run _ (I2 false hx.symm) he (by rw [hw, hx]; rfl)
            · exact skip _ (I2 false hx.symm) he (by rw [hw, hx]; rfl)
        · cases he
end
end Go.Ev

noncomputable section
namespace Go.Ev
variable {P : Program}
section
variable {C : Ctx} {B : Base} {R : Type} {K : List Slot → Option R} {res : R} {next : Act → World → Prop} {Q : Exit → Act → World → Prop} {o : Oper} {σ : List Slot} {a : Act} {w : World} {col : Col}
theorem evalOp_st (hC : CtxOk P C) (hI : Inv P B σ a w) (hG : Good P B K res next) {h : Nat} (hp : pureOp h o.op = true) (he : evalOp C h o σ K = some res) : o.st P a w next := by
  obtain ⟨col, I⟩ := hI
  cases hop : o.op with
  | call c =>
    rw [hop] at hp
    unfold evalOp at he
    rw [hop] at he
    simp only [pureOp] at hp
    simp only at he
    split at hp
    · rename_i hcal
      rw [hcal] at he
      simp only at he
      split at he
      · rename_i x T ha ht
        exact Len.ok hC I hG hop hcal (toList_one ha) (toList_one ht) he
      · cases he
    · rename_i hcal
      rw [hcal] at he
      exact Max.ok hC I hG hop hcal (.inl ⟨rfl, rfl⟩) he
    · rename_i hcal
      rw [hcal] at he
      exact Max.ok hC I hG hop hcal (.inr ⟨rfl, rfl⟩) he
    · cases hp
  | move x => unfold evalOp at he; rw [hop] at he; exact Move.ok hC I hG (.inl hop) he
  | pick c x y => unfold evalOp at he; rw [hop] at he; exact Pick.ok hC I hG hop he
  | load T x => unfold evalOp at he; rw [hop] at he; exact Load.ok hC I hG hop he
  | nilCheck x => unfold evalOp at he; rw [hop] at he; exact NilCheck.ok I hG hop he
  | binOp op T x y T' =>
    unfold evalOp at he; rw [hop] at he
    simp only at he
    split at he
    · rename_i u v hx hy
      exact Bin.ok hC I hG hop hx hy he
    · cases he
  | unOp op T x => unfold evalOp at he; rw [hop] at he; exact Un.ok I hG hop he
  | convert T0 T x =>
    unfold evalOp at he; rw [hop] at he
    simp only at he
    split at he
    · rename_i s hs
      refine Convert.ok hC I hG hop ?_ he
      exact Fits.some (hC.ty T0 s hs)
    · cases he
  | fieldAddr T x j => unfold evalOp at he; rw [hop] at he; exact FieldAddr.ok hC I hG hop he
  | field T x j => unfold evalOp at he; rw [hop] at he; exact Field.ok hC I hG hop he
  | indexAddr T x i => unfold evalOp at he; rw [hop] at he; exact IndexAddr.ok hC I hG hop he
  | index T x i => unfold evalOp at he; rw [hop] at he; exact Index.ok hC I hG hop he
  | extract x j => unfold evalOp at he; rw [hop] at he; exact Extract.ok I hG hop he
  | slice T x lo hi mx =>
    rw [hop] at hp
    have hh : h = 0 := Nat.eq_of_beq_eq_true hp
    subst hh
    unfold evalOp at he; rw [hop] at he
    cases mx with
    | some m => cases he
    | none => exact Slice.ok hC I hG hop he
  | _ => rw [hop] at hp; simp [pureOp] at hp
end
end Go.Ev

noncomputable section
namespace Go.Ev
variable {P : Program}
theorem gs_hide_dead {r : Nat} : ∀ (rs : List Nat) (σ : List Slot), (r ∈ rs ∨ gs σ r = .dead) → gs (hide rs σ) r = .dead
  | [], σ, h => h.resolve_left (by simp)
  | x :: rs, σ, h => by
    simp only [hide]
    refine gs_hide_dead rs _ ?_
    by_cases e : r = x
    · subst e; exact .inr gs_put_dead
    · rcases h with h | h
      · rcases List.mem_cons.1 h with h | h
        · exact absurd h e
        · exact .inl h
      · refine .inr ?_
        rw [gs_put_ne e, h]; rfl
theorem length_hide : ∀ (rs : List Nat) (σ : List Slot), (hide rs σ).length = σ.length
  | [], σ => rfl
  | x :: rs, σ => by simp only [hide]; rw [length_hide rs, length_put]
structure Hid (rs : List Nat) (col ch : Col) : Prop where
  quiet : ∀ b, Quiet (col b) → ch b = col b
  own : ∀ b r q, col b = some (r :: q) → r ∈ rs → ch b = none
  other : ∀ b r q, col b = some (r :: q) → r ∉ rs → ch b = col b
theorem InvC.hide {B : Base} {a : Act} {w : World} : ∀ (rs : List Nat) {col : Col} {σ : List Slot}, InvC P B col σ a w → ∃ ch, InvC P B ch (Ev.hide rs σ) a w ∧ Hid rs col ch
  | [], col, σ, I => ⟨col, I, fun _ _ => rfl, fun _ _ _ _ h => by simp at h, fun _ _ _ _ _ => rfl⟩
  | r :: rs, col, σ, I => by
    have I1 := (I.dead r).recol (p := [r]) (show (gs (Ev.put σ r .dead) r).isRoot = false by rw [gs_put_dead]; rfl) (fun _ => none)
    obtain ⟨ch, I2, H⟩ := InvC.hide rs I1
    have e1 : ∀ b q, col b = some (r :: q) → reCol col (fun _ => none) [r] b = none := fun b q h => reCol_own col (fun _ => none) [r] q h
    have e2 : ∀ b, (∀ q, col b ≠ some (r :: q)) → reCol col (fun _ => none) [r] b = col b := fun b h => reCol_ne col (fun _ => none) [r] h
    refine ⟨ch, I2, fun b hq => ?_, fun b r' q hc hm => ?_, fun b r' q hc hm => ?_⟩
    · have e := reCol_quiet col (fun _ => none) (p := [r]) (by simp) hq
      rw [H.quiet b (by rw [e]; exact hq), e]
    · by_cases hr : r' = r
      · subst hr
        have e := e1 b q hc
        rw [H.quiet b (by rw [e]; exact .inl rfl), e]
      · have e := e2 b (fun q' h => by rw [hc] at h; injection h with h; injection h with h; exact hr h)
        exact H.own b r' q (by rw [e]; exact hc) ((List.mem_cons.1 hm).resolve_left hr)
    · have hr : r' ≠ r := fun h => hm (by rw [h]; simp)
      have e := e2 b (fun q' h => by rw [hc] at h; injection h with h; injection h with h; exact hr h)
      rw [H.other b r' q (by rw [e]; exact hc) (fun h => hm (List.mem_cons_of_mem _ h)), e]
theorem gs_unhide (rs : List Nat) (d : Option Nat) : ∀ (k : Nat) (σ σ2 : List Slot) (t : Nat), σ2.length = σ.length →
    gs (unhide rs d k σ σ2) t = bif3 (isDead (gs σ2 t) && hidden rs (k + t) (gs σ t) && !memO [k + t] d) (gs σ t) (gs σ2 t)
  | k, [], [], t, h => by simp [unhide, gs, bif3]; cases (isDead Slot.dead && hidden rs (k + t) Slot.dead && !memO [k + t] d) <;> rfl
  | k, s :: σ, s2 :: σ2, 0, h => rfl
  | k, s :: σ, s2 :: σ2, t + 1, h => by
    have := gs_unhide rs d (k + 1) σ σ2 t (by simpa using h)
    show gs (unhide rs d (k + 1) σ σ2) t = _
    rw [this]
    simp only [gs]
    rw [show k + 1 + t = k + (t + 1) by omega]
  | k, [], _ :: _, t, h => by simp at h
  | k, _ :: _, [], t, h => by simp at h
theorem length_unhide (rs : List Nat) (d : Option Nat) : ∀ (k : Nat) (σ σ2 : List Slot), (unhide rs d k σ σ2).length = σ2.length
  | k, [], σ2 => by cases σ2 <;> simp [unhide]
  | k, s :: σ, [] => by simp [unhide]
  | k, s :: σ, s2 :: σ2 => by simp [unhide, length_unhide rs d (k + 1) σ σ2]
theorem okHid_spec {σ : List Slot} {d : Option Nat} : ∀ {rs : List Nat}, okHid σ d rs = true → ∀ r ∈ rs, (gs σ r).isRoot = true ∧ d ≠ some r
  | [], _, r, h => by simp at h
  | x :: rs, h, r, hm => by
    simp only [okHid, Bool.and_eq_true, Bool.not_eq_true'] at h
    rcases List.mem_cons.1 hm with rfl | hm
    · refine ⟨?_, fun e => ?_⟩
      · have := h.1.1
        cases hs : gs σ r <;> rw [hs] at this <;> first | rfl | (simp [isRt] at this)
      · have := h.1.2
        subst e
        simp [memO, memN, bif3] at this
    · exact okHid_spec h.2 r hm
theorem allDead_spec {σ : List Slot} : ∀ {rs : List Nat}, allDead σ rs = true → ∀ r ∈ rs, gs σ r = .dead
  | [], _, r, h => by simp at h
  | x :: rs, h, r, hm => by
    simp only [allDead, Bool.and_eq_true] at h
    rcases List.mem_cons.1 hm with rfl | hm
    · exact isDead_eq h.1
    · exact allDead_spec h.2 r hm
structure Kept (rs : List Nat) (w w' : World) (col col' : Col) : Prop where
  out : Out w w'
  sz : w.heap.size ≤ w'.heap.size
  quiet : ∀ b, b < w.heap.size → Quiet (col b) → col' b = col b ∧ w'.heap[b]? = w.heap[b]?
  own : ∀ b r q, b < w.heap.size → col b = some (r :: q) → r ∈ rs → col' b = col b ∧ w'.heap[b]? = w.heap[b]?
theorem Kept.refl (rs : List Nat) (w : World) (col : Col) : Kept rs w w col col := ⟨.refl _, Nat.le_refl _, fun _ _ _ => ⟨rfl, rfl⟩, fun _ _ _ _ _ _ => ⟨rfl, rfl⟩⟩
open Classical in
def colU (w : World) (col ch c2 : Col) : Col := fun b => if b < w.heap.size ∧ Quiet (ch b) then col b else c2 b
theorem memO_one {t : Nat} {d : Option Nat} : memO [t] d = false ↔ d ≠ some t := by
  cases d with
  | none => simp [memO]
  | some d =>
    simp only [memO, memN]
    by_cases h : d = t
    · subst h; simp [bif3]
    · have : Nat.beq d t = false := by
        cases hb : Nat.beq d t
        · rfl
        · exact absurd (Nat.eq_of_beq_eq_true hb) h
      simp [this, bif3, h]
theorem InvC.unhide {B : Base} {col ch c2 : Col} {σ σ2 : List Slot} {a a' : Act} {w w' : World} {rs : List Nat} {d : Option Nat} (I : InvC P B col σ a w) (H : Hid rs col ch)
    (I2 : InvC P ⟨w, ch⟩ c2 σ2 a' w') (hl : σ2.length = σ.length) (hV : ∀ t, d ≠ some t → Act.V a' t = Act.V a t) (hr : ∀ r ∈ rs, (gs σ r).isRoot = true ∧ d ≠ some r) (hd : ∀ r ∈ rs, gs σ2 r = .dead) :
    InvC P B (colU w col ch c2) (Ev.unhide rs d 0 σ σ2) a' w' ∧ Kept rs w w' col (colU w col ch c2) := by
  have hq : ∀ b, b < w.heap.size → Quiet (ch b) → colU w col ch c2 b = col b := fun b h1 h2 => by unfold colU; rw [if_pos ⟨h1, h2⟩]
  have hn : ∀ b t q, c2 b = some (t :: q) → colU w col ch c2 b = c2 b := fun b t q h => by
    unfold colU
    rw [if_neg]
    rintro ⟨h1, h2⟩
    have := I2.frm.col b h1 h2
    rw [h] at this
    have this : some (t :: q) = ch b := this
    rw [← this] at h2
    rcases h2 with h2 | h2 <;> cases h2
  have hs : ∀ b, c2 b = some [] → colU w col ch c2 b = some [] := fun b h => by
    by_cases hb : b < w.heap.size ∧ Quiet (ch b)
    · rw [hq b hb.1 hb.2]
      have := I2.frm.col b hb.1 hb.2
      rw [h] at this
      have this : some [] = ch b := this
      cases hc : col b with
      | none => rw [H.quiet b (.inl hc), hc] at this; cases this
      | some p =>
        cases p with
        | nil => rfl
        | cons t q =>
          by_cases ht : t ∈ rs
          · rw [H.own b t q hc ht] at this; cases this
          · rw [H.other b t q hc ht, hc] at this; cases this
    · unfold colU; rw [if_neg hb]; exact h
  have keep : Kept rs w w' col (colU w col ch c2) := by
    refine ⟨I2.frm.out, I2.frm.sz, fun b hb h => ?_, fun b r q hb hc h => ?_⟩
    · have e := H.quiet b h
      exact ⟨hq b hb (by rw [e]; exact h), I2.frm.mem b hb (show Quiet (ch b) by rw [e]; exact h)⟩
    · have e := H.own b r q hc h
      exact ⟨hq b hb (by rw [e]; exact .inl rfl), I2.frm.mem b hb (show Quiet (ch b) by rw [e]; exact .inl rfl)⟩
  refine ⟨⟨by rw [length_unhide]; exact I2.len, I2.dfr, ⟨Nat.le_trans I.frm.sz keep.sz, fun b hb hc => ?_, fun b hb hc => ?_, I.frm.out.trans keep.out⟩, fun t => ?_⟩, keep⟩
  · have e := I.frm.col b hb hc
    exact (keep.quiet b (Nat.lt_of_lt_of_le hb I.frm.sz) (by rw [e]; exact hc)).2.trans (I.frm.mem b hb hc)
  · have e := I.frm.col b hb hc
    exact (keep.quiet b (Nat.lt_of_lt_of_le hb I.frm.sz) (by rw [e]; exact hc)).1.trans e
  · -- Reps of the operation's own
    have new : ∀ {t : Nat} {pt : List Nat} {s : S} {h : Option (List Nat)} {m : M} {x : El s} {cs : List Value}, Rep P s w' c2 h (t :: pt) m x cs → Rep P s w' (colU w col ch c2) h (t :: pt) m x cs := by
      intro t pt s h m x cs R
      exact R.stay ⟨fun b q _ hc _ => (hn b t (pt ++ q) hc).trans hc, fun b _ hc => hs b hc, fun _ _ _ => rfl, Nat.le_refl _⟩
    have old : ∀ {t : Nat} {pt : List Nat} {s : S} {h : Option (List Nat)} {m : M} {x : El s} {cs : List Value}, t ∈ rs → Rep P s w col h (t :: pt) m x cs → Rep P s w' (colU w col ch c2) h (t :: pt) m x cs := by
      intro t pt s h m x cs ht R
      refine R.stay ⟨fun b q hb hc _ => (keep.own b t (pt ++ q) hb hc ht).1.trans hc, fun b hb hc => (keep.quiet b hb (.inr hc)).1.trans hc, fun b hb h => ?_, keep.sz⟩
      rcases h with h | ⟨q, h, _⟩
      · exact (keep.quiet b hb (.inr h)).2
      · exact (keep.own b t (pt ++ q) hb h ht).2
    have nav : ∀ {r : Nat} {p pth q : List Nat} {c : Comp} {hh : Option (List Nat)} {u : Value}, r ∈ rs → RootIs σ (Act.V a) r p c hh pth q u → ∀ {cs cs' : List Value} {oa' : Option Addr}, IsVal c.s u cs → Nav w c.s q cs none cs' oa' → Nav w' c.s q cs none cs' oa' := by
      intro r p pth q c hh u hrs K cs cs' oa' hv hnv
      obtain ⟨cs0, h1, h2⟩ := I.root K
      have := h2.unique hv
      subst this
      obtain ⟨pt, e⟩ := K.head
      refine hnv.stay _ _ h1 K.off (fun b hb h => ?_)
      rcases h with h | ⟨q, h, _⟩
      · exact (keep.quiet b hb (.inr h)).2
      · rw [e] at h; exact (keep.own b r (pt ++ q) hb h hrs).2
    have hroot : ∀ r ∈ rs, gs (Ev.unhide rs d 0 σ σ2) r = gs σ r := by
      intro r hm
      rw [gs_unhide rs d 0 σ σ2 r hl, Nat.zero_add, hd r hm]
      have h1 : hidden rs r (gs σ r) = true := by
        have := (hr r hm).1
        cases hs : gs σ r <;> rw [hs] at this <;> first | exact memN_iff.2 hm | (simp [Slot.isRoot] at this)
      rw [h1, memO_one.2 (hr r hm).2]; rfl
    have hrt2 : ∀ r, (gs σ2 r).isRoot = true → gs (Ev.unhide rs d 0 σ σ2) r = gs σ2 r := by
      intro r hm
      rw [gs_unhide rs d 0 σ σ2 r hl]
      have : isDead (gs σ2 r) = false := by cases hs : gs σ2 r <;> rw [hs] at hm <;> first | rfl | (simp [Slot.isRoot] at hm)
      rw [this]; rfl
    have hk2 := I2.ok t
    have hk := I.ok t
    rw [gs_unhide rs d 0 σ σ2 t hl, Nat.zero_add]
    cases hb : (isDead (gs σ2 t) && hidden rs t (gs σ t) && !memO [t] d)
    · simp only [bif3]
      cases hs2 : gs σ2 t with
      | dead => trivial
      | undef => rw [hs2] at hk2; exact hk2
      | val s1 m1 x1 => rw [hs2] at hk2; obtain ⟨cs, h1, h2⟩ := hk2; exact ⟨cs, new h1, h2⟩
      | hol s1 m1 x1 hp1 => rw [hs2] at hk2; obtain ⟨h0, cs, h1, h2⟩ := hk2; exact ⟨h0, cs, new h1, h2⟩
      | tup cs1 => rw [hs2] at hk2; obtain ⟨vs, e, h⟩ := hk2; exact ⟨vs, e, fun i c hi => by obtain ⟨u, cs', h1, h2, h3⟩ := h i c hi; exact ⟨u, cs', h1, new h2, h3⟩⟩
      | al r' q =>
        rw [hs2] at hk2
        exact ⟨hk2.1, AlOk.ctx hk2.2 (hrt2 r' (AlOk.isRoot hk2.2)) rfl⟩
      | pl r' q =>
        rw [hs2] at hk2
        exact ⟨hk2.1, PlOk.ctx hk2.2 (hrt2 r' (PlOk.isRoot hk2.2)) rfl⟩
    · simp only [bif3]
      simp only [Bool.and_eq_true, Bool.not_eq_true'] at hb
      obtain ⟨⟨_, hhid⟩, hdt⟩ := hb
      have hVt := hV t (memO_one.1 hdt)
      have mem_of : ∀ {r : Nat}, memN r rs = true → r ∈ rs := fun h => memN_iff.1 h
      cases hs : gs σ t with
      | dead => trivial
      | undef => rw [hs] at hk; show Act.V a' t = _; rw [hVt]; exact hk
      | val s1 m1 x1 => rw [hs] at hk hhid; obtain ⟨cs, h1, h2⟩ := hk; exact ⟨cs, old (mem_of hhid) h1, by rw [hVt]; exact h2⟩
      | hol s1 m1 x1 hp1 => rw [hs] at hk hhid; obtain ⟨h0, cs, h1, h2⟩ := hk; exact ⟨h0, cs, old (mem_of hhid) h1, by rw [hVt]; exact h2⟩
      | tup cs1 =>
        rw [hs] at hk hhid
        obtain ⟨vs, e, h⟩ := hk
        exact ⟨vs, hVt.trans e, fun i c hi => by obtain ⟨u, cs', h1, h2, h3⟩ := h i c hi; exact ⟨u, cs', h1, old (mem_of hhid) h2, h3⟩⟩
      | al r' q =>
        rw [hs] at hk hhid
        have hm := mem_of hhid
        refine ⟨hk.1, ?_⟩
        have e1 := hroot r' hm
        have e2 := hV r' (hr r' hm).2
        rcases hk.2 with ⟨cs, h1, h2, h3⟩ | ⟨c, hh, pth, q1, u, hrr, okq, c1, c2', oa, k1, k2, k3⟩
        · exact .inl ⟨cs, e1.trans h1, h2, by rw [hVt, e2]; exact h3⟩
        · exact .inr ⟨c, hh, pth, q1, u, hrr.ctx e1 e2, okq, c1, c2', oa, k1, nav hm hrr k1 k2, by rw [hVt]; exact k3⟩
      | pl r' q =>
        rw [hs] at hk hhid
        have hm := mem_of hhid
        refine ⟨hk.1, ?_⟩
        have e1 := hroot r' hm
        have e2 := hV r' (hr r' hm).2
        obtain ⟨c, hh, pth, q1, u, hrr, okq, c1, c2', oa, k1, k2, k3⟩ := hk.2
        exact ⟨c, hh, pth, q1, u, hrr.ctx e1 e2, okq, c1, c2', oa, k1, nav hm hrr k1 k2, by rw [hVt]; exact k3⟩
end Go.Ev

noncomputable section
namespace Go.Ev
variable {P : Program}
theorem tmpsOf_mem {t : Nat} : ∀ {l : List Operand}, Operand.tmp t ∈ l → t ∈ tmpsOf l
  | [], h => by simp at h
  | x :: l, h => by
    rcases List.mem_cons.1 h with h | h
    · subst h; simp [tmpsOf]
    · have := tmpsOf_mem h
      cases x <;> simp [tmpsOf, this]
theorem oList_mem {x : Operand} {o : Option Operand} (h : x ∈ o.toArray) : x ∈ oList o := by
  cases o with
  | none => simp at h
  | some y => simpa [oList] using h
theorem opnds_mem {o : Op} {x : Operand} (h : x ∈ o.operands) : x ∈ opnds o := by
  cases o
  case slice t y lo hi mx =>
    simp only [Op.operands, Array.mem_append] at h
    rcases h with ((h | h) | h) | h
    · simp only [opnds]; simp at h; simp [h]
    · have := oList_mem h; simp [opnds, this]
    · have := oList_mem h; simp [opnds, this]
    · have := oList_mem h; simp [opnds, this]
  case call c =>
    simp only [Op.operands, Call.operands, Array.mem_append] at h
    simp only [opnds]
    cases hc : c.callee <;> rw [hc] at h <;> simp at h ⊢ <;> exact h
  all_goals first | (simp only [Op.operands, opnds] at h ⊢; simp at h ⊢; done) | (simp only [Op.operands, opnds] at h ⊢; simp at h ⊢; exact h) | (simp only [opnds]; simpa using h)
theorem looks_op {all : List Oper} {o : Oper} {t : Nat} (h : Operand.tmp t ∈ o.op.operands) : t ∈ looks all o := List.mem_append_left _ (tmpsOf_mem (opnds_mem h))
theorem looks_guard {all : List Oper} {o : Oper} {g t : Nat} {b : Bool} (hg : o.guard = some (g, b)) (h : guardOf all g = some t) : t ∈ looks all o := by
  refine List.mem_append_right _ ?_
  rw [hg]
  simp only [h]
  simp
theorem eval_congr {a a' : Act} {x : Operand} (h : ∀ t, x = .tmp t → Act.V a' t = Act.V a t) : a'.eval x = a.eval x := by
  cases x with
  | tmp t => exact h t rfl
  | _ => rfl
theorem exec_congr {all : List Oper} {o : Oper} {a a' : Act} (hs : ∀ cs b, o.op ≠ .select cs b) (h : ∀ t, t ∈ looks all o → Act.V a' t = Act.V a t) : execOp a'.eval o = execOp a.eval o :=
  execOp_congr o hs fun x hx => eval_congr fun t e => h t (by subst e; exact looks_op hx)
theorem guardOf_eq (ops : Array Oper) (g : Nat) : guardOf ops.toList g = (ops[g]?).bind (·.dst) := by
  unfold guardOf
  rw [nth_get]
  have e : ops.toList[g]? = ops[g]? := Array.getElem?_toList ..
  rw [e]
  cases ops[g]? <;> rfl
theorem tmps_congr {t : Nat} {a a' : Act} (hsz : a'.tmps.size = a.tmps.size) (h : Act.V a' t = Act.V a t) : a'.tmps[t]? = a.tmps[t]? := by
  unfold Act.V at h
  by_cases hl : t < a.tmps.size
  · have hl' : t < a'.tmps.size := by rw [hsz]; exact hl
    rw [Array.getD_eq_getD_getElem?, Array.getD_eq_getD_getElem?, Array.getElem?_eq_getElem hl, Array.getElem?_eq_getElem hl'] at h
    simp only [Option.getD_some] at h
    rw [Array.getElem?_eq_getElem hl, Array.getElem?_eq_getElem hl', h]
  · have h1 : a.tmps.size ≤ t := Nat.le_of_not_lt hl
    rw [Array.getElem?_eq_none h1, Array.getElem?_eq_none (by rw [hsz]; exact h1)]
theorem yielded_congr {ops : Array Oper} {g : Nat} {a a' : Act} (hsz : a'.tmps.size = a.tmps.size) (h : ∀ t, guardOf ops.toList g = some t → Act.V a' t = Act.V a t) : yielded ops a'.tmps g = yielded ops a.tmps g := by
  unfold yielded
  rw [guardOf_eq] at h
  cases ht : (ops[g]?).bind (·.dst) with
  | none => rfl
  | some t => simp only [Option.bind_some, tmps_congr hsz (h t ht)]
theorem wanted_congr {ops : Array Oper} {o : Oper} {a a' : Act} (hsz : a'.tmps.size = a.tmps.size) (h : ∀ t, t ∈ looks ops.toList o → Act.V a' t = Act.V a t) : Region.wanted o (yielded ops a'.tmps) = Region.wanted o (yielded ops a.tmps) := by
  unfold Region.wanted
  cases hg : o.guard with
  | none => rfl
  | some gb =>
    obtain ⟨g, b⟩ := gb
    simp only
    rw [yielded_congr hsz (fun t ht => h t (looks_guard hg ht))]
theorem depsIn_iff {V : List Nat} : ∀ {l : List Edge}, depsIn V l = true ↔ ∀ e ∈ l, Region.binds .any e = true → e.on ∈ V
  | [] => by simp [depsIn]
  | e :: l => by
    simp only [depsIn, Bool.and_eq_true, Bool.or_eq_true, Bool.not_eq_true', List.mem_cons, forall_eq_or_imp, memN_iff, depsIn_iff (l := l)]
    constructor
    · rintro ⟨h1, h2⟩
      refine ⟨fun hb => ?_, h2⟩
      rcases h1 with h1 | h1
      · rw [hb] at h1; cases h1
      · exact h1
    · rintro ⟨h1, h2⟩
      refine ⟨?_, h2⟩
      cases hb : Region.binds .any e
      · exact .inl rfl
      · exact .inr (h1 hb)
theorem hasDep_iff {p : Nat} : ∀ {l : List Edge}, hasDep p l = true ↔ ∃ e ∈ l, Region.binds .any e = true ∧ e.on = p
  | [] => by simp [hasDep]
  | e :: l => by
    have key : Nat.beq e.on p = true ↔ e.on = p := ⟨Nat.eq_of_beq_eq_true, fun h => by rw [h]; exact Nat.beq_refl p⟩
    simp only [hasDep, Bool.or_eq_true, Bool.and_eq_true, List.mem_cons, exists_eq_or_imp, hasDep_iff (l := l), key]
theorem waitAll_spec {V A : List Nat} {j : Option Nat} : ∀ {l : List Oper} {i : Nat}, waitAll V A j i l = true → ∀ k o, l[k]? = some o → (i + k) ∈ V ∨ isAlloc o.op = true ∨ j = some (i + k) ∨ depsIn (V ++ A) o.after.toList = false
  | [], i, _, k, o, h => by simp at h
  | o' :: l, i, hw, k, o, h => by
    simp only [waitAll, Bool.and_eq_true, Bool.or_eq_true, Bool.not_eq_true'] at hw
    cases k with
    | zero =>
      simp only [List.getElem?_cons_zero, Option.some.injEq] at h
      subst h
      rcases hw.1 with ((h1 | h1) | h1) | h1
      · exact .inl (memN_iff.1 h1)
      · exact .inr (.inl h1)
      · refine .inr (.inr (.inl ?_))
        cases j with
        | none => simp [memO] at h1
        | some d =>
          have : d ∈ [i] := memN_iff.1 h1
          simp at this
          simp [this]
      · exact .inr (.inr (.inr h1))
    | succ k =>
      have := waitAll_spec hw.2 k o (by simpa using h)
      rw [show i + (k + 1) = i + 1 + k by omega]; exact this
theorem allocs_spec : ∀ {l : List Oper} {i k : Nat} {o : Oper}, l[k]? = some o → (i + k ∈ allocs i l ↔ isAlloc o.op = true)
  | [], i, k, o, h => by simp at h
  | o' :: l, i, k, o, h => by
    have lt : ∀ {l : List Oper} {i j : Nat}, j ∈ allocs i l → i ≤ j := by
      intro l
      induction l with
      | nil => intro i j h; simp [allocs] at h
      | cons o l ih =>
        intro i j h
        simp only [allocs] at h
        cases ha : isAlloc o.op <;> rw [ha] at h <;> simp only [bif3] at h
        · have := ih h; omega
        · rcases List.mem_cons.1 h with h | h
          · omega
          · have := ih h; omega
    cases k with
    | zero =>
      simp only [List.getElem?_cons_zero, Option.some.injEq] at h
      subst h
      simp only [allocs, Nat.add_zero]
      cases ha : isAlloc o'.op <;> simp only [bif3]
      · constructor
        · intro h; have := lt h; omega
        · intro h; cases h
      · simp
    | succ k =>
      have ih := allocs_spec (i := i + 1) (k := k) (o := o) (l := l) (by simpa using h)
      rw [show i + (k + 1) = i + 1 + k by omega]
      rw [← ih]
      simp only [allocs]
      cases ha : isAlloc o'.op <;> simp only [bif3]
      rw [List.mem_cons]
      constructor
      · rintro (h | h)
        · omega
        · exact h
      · exact .inr
theorem mem_delN {k x : Nat} : ∀ {l : List Nat}, x ∈ delN k l ↔ x ∈ l ∧ x ≠ k
  | [] => by simp [delN]
  | y :: l => by
    have ih := mem_delN (k := k) (x := x) (l := l)
    simp only [delN]
    cases hb : Nat.beq y k <;> simp only [bif3]
    · have hne : y ≠ k := fun e => by rw [e, Nat.beq_refl] at hb; cases hb
      simp only [List.mem_cons, ih]
      constructor
      · rintro (h | h)
        · subst h; exact ⟨.inl rfl, hne⟩
        · exact ⟨.inr h.1, h.2⟩
      · rintro ⟨h | h, h2⟩
        · exact .inl h
        · exact .inr ⟨h, h2⟩
    · have he : y = k := Nat.eq_of_beq_eq_true hb
      rw [ih, List.mem_cons]
      constructor
      · rintro ⟨h1, h2⟩; exact ⟨.inr h1, h2⟩
      · rintro ⟨h | h, h2⟩
        · exact absurd (h.trans he) h2
        · exact ⟨h, h2⟩
theorem allBelow_spec {V : List Nat} : ∀ {n : Nat}, allBelow n V = true → ∀ i, i < n → i ∈ V
  | 0, _, i, h => by omega
  | n + 1, hb, i, h => by
    simp only [allBelow, Bool.and_eq_true] at hb
    by_cases e : i = n
    · subst e; exact memN_iff.1 hb.1
    · exact allBelow_spec hb.2 i (by omega)
theorem noSelect_spec : ∀ {l : List Oper}, noSelect l = true → ∀ o ∈ l, ∀ cs b, o.op ≠ .select cs b
  | [], _, o, h, _, _ => by simp at h
  | o' :: l, hn, o, h, cs, b => by
    simp only [noSelect, Bool.and_eq_true] at hn
    rcases List.mem_cons.1 h with rfl | h
    · intro e; rw [e] at hn; simp at hn
    · exact noSelect_spec hn.2 o h cs b
structure Sep (ci : Bool) (all : List Oper) (p : Nat) (op : Oper) (i : Nat) (o : Oper) : Prop where
  self : i = p → ∀ d, op.dst = some d → d ∉ looks all o
  dst : i ≠ p → ∀ d, op.dst = some d → o.dst ≠ some d
  r1 : i ≠ p → ∀ d, op.dst = some d → d ∈ looks all o → ∃ e ∈ o.after.toList, Region.binds .any e = true ∧ e.on = p
  r2 : i ≠ p → ∀ d, o.dst = some d → d ∈ looks all op → (∃ e ∈ op.after.toList, Region.binds .any e = true ∧ e.on = i) ∨ (ci = false ∧ ∃ e ∈ o.after.toList, Region.binds .any e = true ∧ e.on = p)
theorem sepOne_spec {f : Nat → Nat} {all : List Oper} {p : Nat} {op : Oper} : ∀ {l : List Oper} {i : Nat}, sepOne f all p op i l = true → ∀ k o, l[k]? = some o → Sep (calmOp (f (i + k)) o.op || isAlloc o.op) all p op (i + k) o
  | [], i, _, k, o, h => by simp at h
  | o' :: l, i, hw, k, o, h => by
    simp only [sepOne, Bool.and_eq_true] at hw
    cases k with
    | succ k =>
      have := sepOne_spec hw.2 k o (by simpa using h)
      rw [show i + (k + 1) = i + 1 + k by omega]; exact this
    | zero =>
      simp only [List.getElem?_cons_zero, Option.some.injEq] at h
      subst h
      obtain ⟨⟨h1, h2⟩, _⟩ := hw
      rw [Nat.add_zero]
      have notIn : ∀ {d : Nat} {l : List Nat}, memN d l = false → d ∉ l := fun h e => by rw [memN_iff.2 e] at h; cases h
      have nb : i ≠ p → Nat.beq i p = false := fun h => by
        cases hb : Nat.beq i p
        · rfl
        · exact absurd (Nat.eq_of_beq_eq_true hb) h
      refine ⟨fun e d hd => ?_, fun e d hd => ?_, fun e d hd hm => ?_, fun e d hd hm => ?_⟩
      · subst e
        rw [hd] at h1
        simp only [Nat.beq_refl, bif3, Bool.not_eq_true'] at h1
        exact notIn h1
      · rw [hd] at h1
        simp only [nb e, bif3, Bool.and_eq_true, Bool.not_eq_true'] at h1
        intro e2
        have := memO_one.1 h1.1
        exact this e2
      · rw [hd] at h1
        simp only [nb e, bif3, Bool.and_eq_true, Bool.not_eq_true', Bool.or_eq_true] at h1
        rcases h1.2 with h | h
        · exact hasDep_iff.1 h
        · exact absurd hm (notIn h)
      · rw [hd] at h2
        simp only [nb e, Bool.or_eq_true, Bool.and_eq_true, Bool.not_eq_true', Bool.false_eq_true, false_or] at h2
        rcases h2 with (h | h) | h
        · exact .inl (hasDep_iff.1 h)
        · exact .inr ⟨h.1, hasDep_iff.1 h.2⟩
        · exact absurd hm (notIn h)
theorem sepAll_spec {h : Nat → Nat} {all : List Oper} : ∀ {l : List Oper} {j : Nat}, sepAll h all j l = true → ∀ p op, l[p]? = some op → (calmOp (h (j + p)) op.op = true ∨ isAlloc op.op = true) → ∀ i o, all[i]? = some o → Sep (calmOp (h i) o.op || isAlloc o.op) all (j + p) op i o
  | [], j, _, p, op, hp => by simp at hp
  | o' :: l, j, hw, p, op, hp => by
    simp only [sepAll, Bool.and_eq_true] at hw
    cases p with
    | succ p =>
      have := sepAll_spec hw.2 p op (by simpa using hp)
      rw [show j + (p + 1) = j + 1 + p by omega]; exact this
    | zero =>
      simp only [List.getElem?_cons_zero, Option.some.injEq] at hp
      subst hp
      intro hc i o hi
      have hb : (calmOp (h j) o'.op || isAlloc o'.op) = true := by
        rw [Bool.or_eq_true]; simpa using hc
      rw [hb] at hw
      have := sepOne_spec hw.1 i o hi
      rw [Nat.zero_add] at this
      exact this
section
variable {C : Ctx} {B : Base} {R : Type} {K : List Slot → Option R} {res : R} {Q : Exit → Act → World → Prop}
theorem evalStep_cases {fx : List (Nat × Value)} (hfx : ∀ t v, (t, v) ∈ fx → t ∈ C.fix) {rid : Nat} {ops : Array Oper} {i : Nat} {o : Oper} {σ : List Slot} {a : Act} {w : World} {col : Col} (I : InvC P B col σ a w)
    (he : evalStep C rid ops.toList i o σ K = some res) : (∀ t v, (t, v) ∈ fx → o.dst ≠ some t) ∧
      ((Region.wanted o (yielded ops a.tmps) = true ∧ ∃ σ', InvC P B col σ' a w ∧ evalOp C (C.hint rid i) o σ' K = some res) ∨
       (Region.wanted o (yielded ops a.tmps) = false ∧ ∃ σ', InvC P B col σ' (a.put o.dst Go.undef) w ∧ K σ' = some res)) := by
  unfold evalStep at he
  have hfix : memO C.fix o.dst = false := by
    cases h : memO C.fix o.dst
    · rfl
    · rw [h] at he; cases he
  rw [hfix] at he
  simp only [bif3] at he
  refine ⟨fun t v h => memO_false hfix t (hfx t v h), ?_⟩
  have skip : ∀ σ, InvC P B col σ a w → InvC P B col (fin σ o.dst .undef) (a.put o.dst Go.undef) w := fun σ I => I.fin (v := Go.undef) (fun d _ => rfl)
  cases hg : o.guard with
  | none =>
    rw [hg] at he
    exact .inl ⟨by simp [Region.wanted, hg], σ, I, he⟩
  | some jb =>
    obtain ⟨j, b⟩ := jb
    rw [hg] at he
    simp only at he
    split at he
    · cases he
    · rename_i t hgt
      have ht : (ops[j]?).bind (·.dst) = some t := by rw [← guardOf_eq]; exact hgt
      split at he
      · rename_i hs
        have hk := I.ok t
        rw [hs] at hk
        have hl : t < a.tmps.size := by rw [I.len]; exact lt_of_gs hs (by simp)
        have hv := V_get hk hl
        exact .inr ⟨by simp [Region.wanted, hg, yielded, ht, hv, Go.undef], _, skip σ I, he⟩
      · rename_i m x hs
        have hk := I.ok t
        rw [hs] at hk
        obtain ⟨cs, h1, h2⟩ := hk
        have hV := h1.bool_val (by simp) h2
        have hl : t < a.tmps.size := by rw [I.len]; exact lt_of_gs hs (by simp)
        have hv := V_get hV hl
        have hw : Region.wanted o (yielded ops a.tmps) = (x == b) := by
          simp [Region.wanted, hg, yielded, ht, hv]
        have I2 : ∀ y, y = x → InvC P B col (ps σ t (V1 .bool y)) a w := fun y hy => by
          subst hy
          exact I.remode hs (fun _ _ _ => rfl) (fun _ _ h => h) ⟨cs, h1, h2⟩
        split at he
        · rename_i hx
          have hx : x = true := hx
          cases b
          · exact .inr ⟨by rw [hw, hx]; rfl, _, skip _ (I2 true hx.symm), he⟩
          · exact .inl ⟨by rw [hw, hx]; rfl, _, I2 true hx.symm, he⟩
        · rename_i hx
          have hx : x = false := by cases x; rfl; exact absurd rfl hx
          cases b
          · exact .inl ⟨by rw [hw, hx]; rfl, _, I2 false hx.symm, he⟩
          · exact .inr ⟨by rw [hw, hx]; rfl, _, skip _ (I2 false hx.symm), he⟩
      · cases he
def Pend (P : Program) (ops : Array Oper) (o : Oper) (v : Value) (a : Act) (w : World) : Prop :=
  (Region.wanted o (yielded ops a.tmps) = true ∧ (∀ w', StillW o a w w' → (execOp a.eval o).run P w' = .ok (.value v) w') ∧ InW o a w) ∨ (Region.wanted o (yielded ops a.tmps) = false ∧ v = Go.undef)
theorem calm_step (hC : CtxOk P C) {fx : List (Nat × Value)} (hfx : ∀ t v, (t, v) ∈ fx → t ∈ C.fix) {rid : Nat} {ops : Array Oper} {i : Nat} {o : Oper} {σ : List Slot} {a : Act} {w : World} {col : Col} (I : InvC P B col σ a w)
    (hc : calmOp (C.hint rid i) o.op = true) (he : evalStep C rid ops.toList i o σ K = some res) : (∀ t v, (t, v) ∈ fx → o.dst ≠ some t) ∧
      ∃ v σ', Inv P B σ' (a.put o.dst v) w ∧ K σ' = some res ∧ Pend P ops o v a w := by
  obtain ⟨hd, h⟩ := evalStep_cases hfx I he
  refine ⟨hd, ?_⟩
  rcases h with ⟨hw, σ', I', h⟩ | ⟨hw, σ', I', h⟩
  · by_cases ha : ∃ x, o.op = .assign x
    · obtain ⟨x, hop⟩ := ha
      have hrun : ∀ w', (execOp a.eval o).run P w' = .ok (.value (a.eval x)) w' := fun w' => by simp [execOp, hop]
      have := evalOp_ok (Q := fun _ _ _ => False) (o := o) (w := w) hC ⟨col, I'⟩ (next := fun a' w' => ∃ σ', Inv P B σ' a' w' ∧ K σ' = some res) (fun σ a w h1 h2 => ⟨σ, h1, h2⟩) h
      unfold Oper.wp at this
      rw [hrun w, Oper.upon_value] at this
      obtain ⟨σ2, g1, g2⟩ := this
      exact ⟨_, σ2, g1, g2, .inl ⟨hw, fun w' _ => hrun w', by unfold InW; rw [hop]; trivial⟩⟩
    · have hp : pureOp (C.hint rid i) o.op = true := by
        cases hop : o.op <;> rw [hop] at hc <;> first | exact hc | exact absurd ⟨_, hop⟩ ha
      obtain ⟨v, g1, g2, σ2, g3, g4⟩ := evalOp_st (next := fun a' w' => ∃ σ', Inv P B σ' a' w' ∧ K σ' = some res) hC ⟨col, I'⟩ (fun σ a w h1 h2 => ⟨σ, h1, h2⟩) hp h
      exact ⟨v, σ2, g3, g4, .inl ⟨hw, g1, g2⟩⟩
  · exact ⟨_, σ', ⟨col, I'⟩, h, .inr ⟨hw, rfl⟩⟩
theorem wp_conv {o : Oper} {av ar : Act} {w : World} {N N' : Act → World → Prop} (h : o.wp P av w N (fun _ _ _ => False)) (he : execOp ar.eval o = execOp av.eval o) (hN : ∀ a w, N a w → a.defers = [])
    (hc : ∀ v w', N (av.put o.dst v) w' → N' (ar.put o.dst v) w') : o.wp P ar w N' Q := by
  unfold Oper.wp at *
  rw [he]
  generalize (execOp av.eval o).run P w = r at *
  cases r with
  | ok n w' =>
    cases n <;> simp only [Oper.upon] at h ⊢
    case value v => exact hc v w' h
    case skip => exact hc _ w' h
    case defer d =>
      have := hN _ _ h
      cases hd : o.dst <;> simp [Act.put, hd] at this
    case enter f args =>
      refine Calls.mono h (fun e w'' he => ?_)
      cases e with
      | returned v => exact hc v w'' he
      | panicked c => exact he.elim
      | outgrown => obtain ⟨_, _, h⟩ := he; exact h.elim
    case row row args => exact Rows.mono h (fun v w'' he => hc v w'' he)
  | halt x w' => cases x <;> simp only [Oper.upon] at h
theorem Rep.block {r : Nat} : ∀ (s : S) (p : List Nat) {w : World} {col : Col} {h : Option (List Nat)} {pt : List Nat} {m : M} {x : El s} {cs cs' : List Value} {oa : Option Addr} {ad' : Addr},
    Rep P s w col h (r :: pt) m x cs → offH h p → Nav w s p cs oa cs' (some ad') → (∀ ad, oa = some ad → col ad.block = some [] ∨ ∃ q, col ad.block = some (r :: q)) → col ad'.block = some [] ∨ ∃ q, col ad'.block = some (r :: q) := by
  intro s
  induction s with
  | agg s ih =>
    intro p w col h pt m x cs cs' oa ad' H off hn hb
    cases p with
    | nil => obtain ⟨_, e⟩ := hn; exact hb ad' e.symm
    | cons i p =>
      obtain ⟨rfl, hn⟩ := hn
      have H' := hole.get (show hole h cs (size s) (Rep P s w col (subH h 0) (r :: (pt ++ [0])) (agM m) x cs) from H) off.1
      exact ih p H' off.2 hn hb
  | pair a b iha ihb =>
    intro p w col h pt m x cs cs' oa ad' H off hn hb
    cases p with
    | nil => obtain ⟨_, e⟩ := hn; exact hb ad' e.symm
    | cons i p =>
      obtain ⟨c1, c2, e, H1, H2⟩ := hole.get (show hole h cs (size a + size b) (∃ c1 c2, cs = c1 ++ c2 ∧ Rep P a w col (subH h 0) (r :: (pt ++ [0])) (prA m) x.1 c1 ∧ Rep P b w col (subH h 1) (r :: (pt ++ [1])) (prB m) x.2 c2) from H) off.1
      obtain ⟨d1, d2, e', hl, hn⟩ := hn
      have hd : d1 = c1 ∧ d2 = c2 := by
        have := e.symm.trans e'
        have hl' : d1.length = c1.length := by rw [hl, H1.len]
        exact ⟨(List.append_inj this hl'.symm).1.symm, (List.append_inj this hl'.symm).2.symm⟩
      obtain ⟨rfl, rfl⟩ := hd
      match i, hn with
      | 0, hn => exact iha p H1 off.2 hn hb
      | 1, hn =>
        refine ihb p H2 off.2 hn (fun ad e => ?_)
        cases oa with
        | none => cases e
        | some ad0 =>
          simp only [Option.map_some, Option.some.injEq] at e
          subst e
          exact hb ad0 rfl
      | _ + 2, hn => exact absurd hn id
  | ptr s ih =>
    intro p w col h pt m x cs cs' oa ad' H off hn hb
    cases p with
    | nil => obtain ⟨_, e⟩ := hn; exact hb ad' e.symm
    | cons i p =>
      obtain ⟨rfl, ad1, ds1, e1, hs1, hl1, ha1, hn⟩ := hn
      obtain ⟨ad, ds, e, hs, ho, hno, ha, H'⟩ := hole.get (show hole h cs 1 (∃ ad ds, cs = [.pointer (some ad)] ∧ ad.spot = none ∧
        (isOw m = true → col ad.block = some (r :: pt) ∧ OwnB w ad.block (ad.off + size s)) ∧
        (isOw m = false → col ad.block = some [] ∧ ad.block < w.heap.size) ∧
        At w ad.block ad.off ds ∧ Rep P s w col (subH h 0) (r :: (pt ++ [0])) (elemM m) x ds) from H) off.1
      rw [e1] at e
      simp only [List.cons.injEq, Value.pointer.injEq, Option.some.injEq, and_true] at e
      subst e
      obtain rfl := ha1.unique ha (by rw [hl1, H'.len])
      refine ih p H' off.2 hn (fun ad e => ?_)
      injection e with e
      subst e
      cases hm : isOw m
      · exact .inl (hno hm).1
      · exact .inr ⟨pt, (ho hm).1⟩
  | slice nl s ih =>
    intro p w col h pt m xs cs cs' oa ad' H off hn hb
    cases p with
    | nil => obtain ⟨_, e⟩ := hn; exact hb ad' e.symm
    | cons i p =>
      obtain ⟨ad1, n1, c1, ds1, e1, hi, hs1, hl1, ha1, hn⟩ := hn
      obtain ⟨a, c, e, hlen, hnl, hnone, H⟩ := hole.get (show hole h cs 1 (∃ a c, cs = [.slice a xs.length c] ∧ xs.length ≤ c ∧ (nl = true → xs = [] → a = none) ∧
        (a = none → xs = [] ∧ c = 0) ∧
        ∀ ad, a = some ad → (c ≠ 0 ∨ isOw m = true → ad.spot = none) ∧
        (isOw m = true → col ad.block = some (r :: pt) ∧ OwnB w ad.block (ad.off + c * size s)) ∧
        (isOw m = false → xs = [] ∨ (col ad.block = some [] ∧ ad.block < w.heap.size)) ∧
        ∀ i x, xs[i]? = some x → ∃ ds, At w ad.block (ad.off + i * size s) ds ∧ Rep P s w col (subH h i) (r :: (pt ++ [i])) (elemM m) x ds) from H) off.1
      rw [e1] at e
      simp only [List.cons.injEq, Value.slice.injEq, and_true] at e
      obtain ⟨e2, e3, e4⟩ := e
      subst e3
      obtain ⟨hs, ho, hno, hx⟩ := H ad1 e2.symm
      obtain ⟨ds, hat, H'⟩ := hx i xs[i] (List.getElem?_eq_getElem hi)
      obtain rfl := ha1.unique hat (by rw [hl1, H'.len])
      refine ih p H' off.2 hn (fun ad e => ?_)
      injection e with e
      subst e
      cases hm : isOw m
      · rcases hno hm with h0 | h0
        · subst h0; simp at hi
        · exact .inl h0.1
      · exact .inr ⟨pt, (ho hm).1⟩
  | _ => intro p w col h pt m x cs cs' oa ad' H off hn hb; obtain ⟨rfl, rfl, e⟩ := hn; exact hb ad' e.symm
theorem safe_block {σ : List Slot} {a : Act} {w : World} {col : Col} (I : InvC P B col σ a w) {rs : List Nat} {x : Operand} (hs : safeSlot σ rs (Ev.rdo σ none x) = true) {ad : Addr} (hv : a.eval x = .pointer (some ad)) :
    col ad.block = some [] ∨ ∃ r q, col ad.block = some (r :: q) ∧ r ∈ rs := by
  have hx := I.rdo none x
  rw [hv] at hx
  cases hsl : Ev.rdo σ none x with
  | dead => rw [hsl] at hs; cases hs
  | tup cs => rw [hsl] at hs; cases hs
  | hol s m y p => rw [hsl] at hs; cases hs
  | undef => rw [hsl] at hx; cases hx
  | val s m y =>
    rw [hsl] at hs hx
    cases s with
    | ptr s =>
      obtain ⟨ad', ds, e1, _, h, _⟩ := ptr_any hx
      injection e1 with e1; injection e1 with e1
      subst e1
      exact .inl h
    | _ => cases hs
  | pl r p =>
    rw [hsl] at hs hx
    have hr : r ∈ rs := memN_iff.1 hs
    obtain ⟨c, hh, pth, q, u, hri, hpl⟩ := hx
    obtain ⟨cs, ad', cs0, e1, h1, h2, h3⟩ := I.place hri hpl
    injection e1 with e1; injection e1 with e1
    subst e1
    obtain ⟨cs1, h4, h5⟩ := I.root hri
    obtain rfl := h5.unique h1
    obtain ⟨pt, rfl⟩ := hri.head
    rcases h4.block _ _ hri.off h2 (fun _ e => by cases e) with h | ⟨q, h⟩
    · exact .inl h
    · exact .inr ⟨r, q, h, hr⟩
  | al r p =>
    rw [hsl] at hs hx
    simp only [safeSlot, Bool.and_eq_true] at hs
    have hr : r ∈ rs := memN_iff.1 hs.1
    rcases hx with ⟨cs, e, _, e2⟩ | ⟨c, hh, pth, q, u, hri, hcp⟩
    · have hk := I.ok r
      rw [e] at hk
      obtain ⟨vs, e3, _⟩ := hk
      rw [← e2] at e3
      cases e3
    · obtain ⟨cs, h1, h2⟩ := I.copy hri hcp
      obtain ⟨pt, rfl⟩ := hri.head
      have key : ∀ (t : S) (y : El t) (m : M) (h : Option (List Nat)) (pt : List Nat), Rep P t w col h (r :: pt) m y cs → IsVal t (.pointer (some ad)) cs → h ≠ some [] → col ad.block = some [] ∨ ∃ q, col ad.block = some (r :: q) := by
        intro t y m h pt h1 h2 hno
        cases t with
        | ptr t =>
          obtain ⟨ad', ds, e1, e2, hs, ho, hn, hat, hr⟩ := h1.ptr_val hno h2
          injection e1 with e1; injection e1 with e1
          subst e1
          cases hm : isOw m
          · exact .inl (hn hm).1
          · exact .inr ⟨_, (ho hm).1⟩
        | int k => have := h1.int_val hno h2; cases this
        | bool => have := h1.bool_val hno h2; cases this
        | str => have := h1.str_val hno h2; cases this
        | slice nl t => obtain ⟨b, c, e1, _⟩ := Rep.slice_val (nl := nl) (s := t) h1 hno h2; cases e1
        | agg t => have := h2; cases this
        | unit => exact absurd h2 id
        | pair a b => exact absurd h2 id
        | func ps r' =>
          obtain ⟨fid, cap, e1, _⟩ := hole.get (show hole h cs 1 _ from h1) hno
          have h2 : cs = [.pointer (some ad)] := h2
          rw [h2] at e1
          cases e1
        | map k v =>
          obtain ⟨_, _, _, e1, _⟩ := hole.get (show hole h cs 1 _ from h1) hno
          have h2 : cs = [.pointer (some ad)] := h2
          rw [h2] at e1
          cases e1
      have hno : subHs hh q ≠ some [] := by
        have hh0 : hh = none := by
          cases hri with
          | val e => rfl
          | tup e => rfl
          | hol e _ => have := hs.2; rw [e] at this; cases this
        subst hh0
        rw [subHs_none]; simp
      rcases key _ _ _ _ _ h1 h2 hno with h | ⟨q, h⟩
      · exact .inl h
      · exact .inr ⟨r, q, h, hr⟩
end
end Go.Ev

noncomputable section
namespace Go.Ev
variable {P : Program}
def Ordered (ops : Array Oper) : List Nat → Prop
  | [] => True
  | i :: l => (∃ o, ops[i]? = some o ∧ depsIn l o.after.toList = true) ∧ Ordered ops l
def undone (D : Array Bool) : Nat → Nat
  | 0 => 0
  | n + 1 => (if D.getD n true = true then 0 else 1) + undone D n
theorem undone_set {D : Array Bool} {i : Nat} (hi : D.getD i true = false) : ∀ n, i < n → undone (D.setIfInBounds i true) n + 1 = undone D n := by
  have hlt : i < D.size := by
    rcases Nat.lt_or_ge i D.size with h | h
    · exact h
    · simp [Array.getElem?_eq_none h] at hi
  have same : ∀ n, n ≤ i → undone (D.setIfInBounds i true) n = undone D n := by
    intro n
    induction n with
    | zero => intro _; rfl
    | succ n ih => intro h; simp only [undone]; rw [getD_set_ne true (by omega : i ≠ n), ih (by omega)]
  intro n
  induction n with
  | zero => intro h; omega
  | succ n ih =>
    intro h
    simp only [undone]
    by_cases e : i = n
    · subst e
      rw [same i (Nat.le_refl _), hi]
      have : (D.setIfInBounds i true).getD i true = true := by simp [hlt]
      rw [this]; simp; omega
    · rw [getD_set_ne true e]
      have := ih (by omega)
      omega
theorem undone_zero {D : Array Bool} : ∀ n, undone D n = 0 → ∀ i, i < n → D.getD i true = true
  | 0, _, i, h => by omega
  | n + 1, h0, i, h => by
    simp only [undone] at h0
    by_cases e : i = n
    · subst e
      cases hb : D.getD i true
      · rw [hb] at h0; simp at h0
      · rfl
    · exact undone_zero n (by omega) i (by omega)
def InD (D : Array Bool) (i : Nat) : Prop := D.getD i false = true
theorem InD_set {D : Array Bool} {i j : Nat} (hi : i < D.size) : InD (D.setIfInBounds i true) j ↔ j = i ∨ InD D j := by
  unfold InD
  by_cases e : i = j
  · subst e; simp [hi]
  · rw [getD_set_ne false e]
    constructor
    · exact .inr
    · rintro (h | h)
      · exact absurd h.symm e
      · exact h
theorem not_InD {D : Array Bool} {i : Nat} (h : ¬ InD D i) (hi : i < D.size) : D.getD i true = false := by
  unfold InD at h
  simp [hi] at h ⊢
  exact h
theorem InD_of {D : Array Bool} {i : Nat} (h : D.getD i true = false) : ¬ InD D i := by
  unfold InD
  by_cases hi : i < D.size
  · simp [hi] at h ⊢; exact h
  · simp [Array.getElem?_eq_none (Nat.le_of_not_lt hi)] at h
section
variable {C : Ctx} {B : Base} {R : Type} {K : List Slot → Option R} {res : R} {Q : Exit → Act → World → Prop}
structure Sim (P : Program) (C : Ctx) (B : Base) (rid : Nat) (ops : Array Oper) (fx : List (Nat × Value)) (V : List Nat) (D : Array Bool) (ar av : Act) (w : World) (col : Col) (σ : List Slot) : Prop where
  inv : InvC P B col σ av w
  fixed : Fixed fx av
  size : ar.tmps.size = av.tmps.size
  dfr : ar.defers = []
  dsz : D.size = ops.size
  dcl : ∀ i o, InD D i → ops[i]? = some o → ∀ e ∈ o.after.toList, Region.binds .any e = true → InD D e.on
  sub : ∀ i, InD D i → i ∈ V ∨ i ∈ allocs 0 ops.toList
  ord : Ordered ops V
  agree : ∀ t, (∀ p ∈ V, ¬ InD D p → ∀ o, ops[p]? = some o → o.dst ≠ some t) → Act.V ar t = Act.V av t
  pend : ∀ p ∈ V, ¬ InD D p → ∃ o, ops[p]? = some o ∧ calmOp (C.hint rid p) o.op = true ∧ (∀ t v, (t, v) ∈ fx → o.dst ≠ some t) ∧ ∃ v, (∀ d, o.dst = some d → d < av.tmps.size → Act.V av d = v) ∧ Pend P ops o v av w
  early : ∀ k, InD D k → k ∉ V → ∃ o d T s b, ops[k]? = some o ∧ o.op = .alloc T ∧ o.dst = some d ∧ C.ty T = some s ∧ Act.V av d = .pointer (some ⟨b, 0, none⟩) ∧ B.w.heap.size ≤ b ∧ b < w.heap.size ∧ col b = none ∧ w.heap[b]? = some (.cells (zcells s).toArray T (0, 0))
  apartE : ∀ k k', InD D k → k ∉ V → InD D k' → k' ∉ V → k ≠ k' → ∀ o o' d d', ops[k]? = some o → ops[k']? = some o' → o.dst = some d → o'.dst = some d' → Act.V av d ≠ Act.V av d'
theorem allocs_mem {ops : Array Oper} {i : Nat} {o : Oper} (h : ops[i]? = some o) : i ∈ allocs 0 ops.toList ↔ isAlloc o.op = true := by
  have := allocs_spec (l := ops.toList) (i := 0) (k := i) (o := o) (by rw [Array.getElem?_toList]; exact h)
  rw [Nat.zero_add] at this
  exact this
theorem calm_not_alloc {h : Nat} {op : Op} (hc : calmOp h op = true) : isAlloc op = false := by
  cases op <;> first | rfl | (simp [calmOp, pureOp] at hc)
structure Reg (C : Ctx) (rid : Nat) (ops : Array Oper) : Prop where
  sep : ∀ p op, ops[p]? = some op → (calmOp (C.hint rid p) op.op = true ∨ isAlloc op.op = true) → ∀ i o, ops[i]? = some o → Sep (calmOp (C.hint rid i) o.op || isAlloc o.op) ops.toList p op i o
  sel : ∀ (i : Nat) (o : Oper), ops[i]? = some o → ∀ cs b, o.op ≠ .select cs b
theorem okAllocs_spec {all : List Oper} {V : List Nat} {σ : List Slot} : ∀ {l : List Nat}, okAllocs C all V σ l = true → ∀ k ∈ l, k ∉ V → ∃ o d T s, nth all k = some o ∧ o.dst = some d ∧ o.guard = none ∧ o.op = .alloc T ∧ d < σ.length ∧ gs σ d = .dead ∧ d ∉ C.fix ∧ C.ty T = some s ∧ zeroable s = true
  | [], _, k, h, _ => by simp at h
  | x :: l, h, k, hm, hv => by
    simp only [okAllocs, Bool.and_eq_true, Bool.or_eq_true] at h
    rcases List.mem_cons.1 hm with rfl | hm
    · rcases h.1 with h1 | h1
      · exact absurd (memN_iff.1 h1) hv
      · split at h1
        · rename_i o ho
          split at h1
          · rename_i d T hd hg hop
            simp only [Bool.and_eq_true, Bool.not_eq_true'] at h1
            obtain ⟨⟨⟨h1, h2⟩, h3⟩, h4⟩ := h1
            split at h4
            · rename_i s hT
              exact ⟨o, d, T, s, ho, hd, hg, hop, ltb_lt h1, isDead_eq h2, (fun e => by rw [memN_iff.2 e] at h3; cases h3), hT, h4⟩
            · cases h4
          · cases h1
        · cases h1
    · exact okAllocs_spec h.2 k hm hv
theorem put_dead_self {col : Col} {σ : List Slot} {a : Act} {w : World} (I : InvC P B col σ a w) {d : Nat} (hd : gs σ d = .dead) : Ev.put σ d .dead = σ := by
  have hk : ∀ t, (gs σ t).isAl d = false := by
    intro t
    have h := I.ok t
    cases hs : gs σ t with
    | al r p =>
      rw [hs] at h
      have h1 := AlOk.isRoot h.2
      simp only [Slot.isAl]
      cases hb : (r == d)
      · rfl
      · have : r = d := by simpa using hb
        subst this
        rw [hd] at h1; cases h1
    | pl r p =>
      rw [hs] at h
      have h1 := PlOk.isRoot h.2
      simp only [Slot.isAl]
      cases hb : (r == d)
      · rfl
      · have : r = d := by simpa using hb
        subst this
        rw [hd] at h1; cases h1
    | _ => rfl
  have key : ∀ (τ : List Slot), (∀ t, (gs τ t).isAl d = false) → kill d τ = τ := by
    intro τ
    induction τ with
    | nil => intro _; rfl
    | cons s τ ih =>
      intro h
      have h0 : s.isAl d = false := h 0
      show bif3 (s.isAl d) .dead s :: kill d τ = s :: τ
      rw [h0, ih (fun t => h (t + 1))]
  have key2 : ∀ (τ : List Slot) (d : Nat), gs τ d = .dead → ps τ d .dead = τ := by
    intro τ
    induction τ with
    | nil => intro d _; rfl
    | cons s τ ih =>
      intro d h
      cases d with
      | zero => have h : s = .dead := h; subst h; rfl
      | succ d => show s :: ps τ d .dead = s :: τ; rw [ih d h]
  unfold Ev.put
  rw [key σ hk]
  show ps σ d (bif3 false .dead .dead) = σ
  exact key2 σ d hd
theorem V_out {a : Act} {t : Nat} (h : a.tmps.size ≤ t) : Act.V a t = Go.undef := by
  unfold Act.V
  rw [Array.getD_eq_getD_getElem?, Array.getElem?_eq_none h]; rfl
theorem size_put (a : Act) (d : Option Nat) (v : Value) : (a.put d v).tmps.size = a.tmps.size := by cases d <;> simp [Act.put]
theorem V_put (a : Act) (d : Option Nat) (v : Value) (t : Nat) : Act.V (a.put d v) t = if d = some t ∧ t < a.tmps.size then v else Act.V a t := by
  cases d with
  | none => simp [Act.put]
  | some d =>
    by_cases h : d = t
    · subst h
      by_cases hl : d < a.tmps.size
      · simp only [hl, and_true, if_true]; exact V_put_same hl
      · simp only [hl, and_false, if_false]
        rw [V_out (by rw [size_put]; omega), V_out (by omega)]
    · rw [if_neg (fun e => h (by injection e.1))]
      exact V_put_ne (fun e => h e.symm)
theorem Pend.mono {ops : Array Oper} {o : Oper} {v : Value} {a a' : Act} {w w' : World} (h : Pend P ops o v a w) (hs : ∀ (cs : Array SelectCase) (b : Bool), o.op ≠ .select cs b) (hsz : a'.tmps.size = a.tmps.size) (hl : ∀ t, t ∈ looks ops.toList o → Act.V a' t = Act.V a t)
    (hw : InW o a w → StillW o a w w' ∧ w.heap.size ≤ w'.heap.size) : Pend P ops o v a' w' := by
  have e1 := exec_congr hs hl
  have e2 := wanted_congr hsz hl
  unfold Pend
  rw [e1, e2]
  rcases h with ⟨h1, h2, h3⟩ | h
  · obtain ⟨k1, k2⟩ := hw h3
    have ev : ∀ T x, o.op = .load T x → a'.eval x = a.eval x := fun T x hop => eval_congr fun t e => hl t (looks_op (by rw [hop]; simp [Op.operands, e]))
    refine .inl ⟨h1, fun w2 hw2 => h2 w2 ?_, ?_⟩
    · unfold StillW at *
      split
      · rename_i T x hop
        rw [hop] at hw2 k1
        simp only at hw2 k1
        intro ad hx
        exact (hw2 ad ((ev T x hop).trans hx)).trans (k1 ad hx)
      · trivial
    · unfold InW at *
      split
      · rename_i T x hop
        rw [hop] at h3
        simp only at h3
        intro ad hx
        exact Nat.lt_of_lt_of_le (h3 ad ((ev T x hop).symm.trans hx)) k2
      · trivial
  · exact .inr h
end
end Go.Ev

noncomputable section
namespace Go.Ev
variable {P : Program}
section
variable {C : Ctx} {B : Base} {R : Type} {K : List Slot → Option R} {res : R} {Q : Exit → Act → World → Prop}
theorem InvC.rebase {B : Base} {col col' : Col} {σ : List Slot} {a : Act} {w w' : World} (I : InvC P ⟨w, col⟩ col' σ a w') (h : FrmQ B.w w B.col col) : InvC P B col' σ a w' :=
  ⟨I.len, I.dfr, ⟨Nat.le_trans h.sz I.frm.sz, fun b hb hc => by
    have e := h.col b hb hc
    exact (I.frm.mem b (Nat.lt_of_lt_of_le hb h.sz) (show Quiet (col b) by rw [e]; exact hc)).trans (h.mem b hb hc), fun b hb hc => by
    have e := h.col b hb hc
    exact (I.frm.col b (Nat.lt_of_lt_of_le hb h.sz) (show Quiet (col b) by rw [e]; exact hc)).trans e, h.out.trans I.frm.out⟩, I.ok⟩
theorem InvC.base {B : Base} {col : Col} {σ : List Slot} {a : Act} {w : World} (I : InvC P B col σ a w) : InvC P ⟨w, col⟩ col σ a w :=
  ⟨I.len, I.dfr, ⟨Nat.le_refl _, fun _ _ _ => rfl, fun _ _ _ => rfl, .refl _⟩, I.ok⟩
theorem InvC.claim {B : Base} {col : Col} {σ : List Slot} {a : Act} {w : World} (I : InvC P B col σ a w) {b : Nat} (hb : col b = none) (hB : B.w.heap.size ≤ b) (p : List Nat) : InvC P B (fun x => if x = b then some p else col x) σ a w := by
  have e : ∀ x, col x ≠ none → (fun x => if x = b then some p else col x) x = col x := fun x h => by
    have : x ≠ b := fun e => h (by rw [e, hb])
    simp only [if_neg this]
  have key : ∀ {t : List Nat} {s : S} {h : Option (List Nat)} {m : M} {x : El s} {cs : List Value}, Rep P s w col h t m x cs → Rep P s w (fun x => if x = b then some p else col x) h t m x cs := by
    intro t s h m x cs H
    exact H.stay ⟨fun b q _ hc _ => (e b (by rw [hc]; simp)).trans hc, fun b _ hc => (e b (by rw [hc]; simp)).trans hc, fun _ _ _ => rfl, Nat.le_refl _⟩
  refine ⟨I.len, I.dfr, ⟨I.frm.sz, I.frm.mem, fun x hx hc => ?_, I.frm.out⟩, fun t => ?_⟩
  · have : x ≠ b := by omega
    show (if x = b then some p else col x) = _
    rw [if_neg this]; exact I.frm.col x hx hc
  · have hk := I.ok t
    cases hs : gs σ t with
    | dead => trivial
    | undef => rw [hs] at hk; exact hk
    | val s1 m1 x1 => rw [hs] at hk; obtain ⟨cs, h1, h2⟩ := hk; exact ⟨cs, key h1, h2⟩
    | hol s1 m1 x1 hp1 => rw [hs] at hk; obtain ⟨h0, cs, h1, h2⟩ := hk; exact ⟨h0, cs, key h1, h2⟩
    | tup cs1 => rw [hs] at hk; obtain ⟨vs, e, h⟩ := hk; exact ⟨vs, e, fun i c hi => by obtain ⟨u, cs', h1, h2, h3⟩ := h i c hi; exact ⟨u, cs', h1, key h2, h3⟩⟩
    | al r' q => rw [hs] at hk; exact hk
    | pl r' q => rw [hs] at hk; exact hk
theorem Ordered.deps {ops : Array Oper} : ∀ {V : List Nat}, Ordered ops V → ∀ p ∈ V, ∀ o, ops[p]? = some o → ∀ e ∈ o.after.toList, Region.binds .any e = true → e.on ∈ V
  | [], _, p, h => by simp at h
  | i :: l, H, p, h => by
    intro o ho e he hb
    obtain ⟨⟨o', ho', hd⟩, H'⟩ := H
    rcases List.mem_cons.1 h with h | h
    · subst h
      rw [ho] at ho'
      injection ho' with ho'
      subst ho'
      exact List.mem_cons_of_mem _ (depsIn_iff.1 hd e he hb)
    · exact List.mem_cons_of_mem _ (H'.deps p h o ho e he hb)
variable {rid : Nat} {ops : Array Oper} {fx : List (Nat × Value)} {V : List Nat} {D : Array Bool} {ar av : Act} {w : World} {col : Col} {σ : List Slot}
theorem Sim.pend' (S : Sim P C B rid ops fx V D ar av w col σ) (G : Reg C rid ops) {i : Nat} {o : Oper} (hi : ops[i]? = some o) (hV : i ∉ V) (hdo : (calmOp (C.hint rid i) o.op || isAlloc o.op) = true ∨ ∀ e ∈ o.after.toList, Region.binds .any e = true → InD D e.on) {v : Value} {w' : World} (hsz : w.heap.size ≤ w'.heap.size) {p : Nat} (hp : p ∈ V) (hD : ¬ InD D p)
    (hst : ∀ op, ops[p]? = some op → InW op av w → StillW op av w w') :
    ∃ op, ops[p]? = some op ∧ calmOp (C.hint rid p) op.op = true ∧ (∀ t v, (t, v) ∈ fx → op.dst ≠ some t) ∧ ∃ u, (∀ d, op.dst = some d → d < (av.put o.dst v).tmps.size → Act.V (av.put o.dst v) d = u) ∧ Pend P ops op u (av.put o.dst v) w' := by
  obtain ⟨op, h1, h2, h3, u, h4, h5⟩ := S.pend p hp hD
  have hne : i ≠ p := fun e => hV (e ▸ hp)
  have sp := G.sep p op h1 (.inl h2) i o hi
  refine ⟨op, h1, h2, h3, u, fun d hd hl => ?_, h5.mono (G.sel p op h1) (size_put _ _ _) (fun t ht => ?_) (fun hw => ⟨hst op h1 hw, hsz⟩)⟩
  · rw [size_put] at hl
    rw [V_put, if_neg (fun e => sp.dst hne d hd e.1)]
    exact h4 d hd hl
  · rw [V_put]
    by_cases e : o.dst = some t ∧ t < av.tmps.size
    · rcases sp.r2 hne t e.1 ht with ⟨e1, h6, h7, h8⟩ | ⟨hci, e1, h6, h7, h8⟩
      · have := S.ord.deps p hp op h1 e1 h6 h7
        rw [h8] at this
        exact absurd this hV
      · rcases hdo with hdo | hdo
        · rw [hci] at hdo; cases hdo
        · have := hdo e1 h6 h7
          rw [h8] at this
          exact absurd this hD
    · rw [if_neg e]
theorem Sim.early' (S : Sim P C B rid ops fx V D ar av w col σ) (G : Reg C rid ops) {i : Nat} {o : Oper} (hi : ops[i]? = some o) {v : Value} {w' : World} {col' : Col} (hsz : w.heap.size ≤ w'.heap.size)
    (hn : ∀ b, b < w.heap.size → col b = none → col' b = none ∧ w'.heap[b]? = w.heap[b]?) {k : Nat} (hD : InD D k) (hk : k ∉ V) (hne : i ≠ k) :
    ∃ op d T s b, ops[k]? = some op ∧ op.op = .alloc T ∧ op.dst = some d ∧ C.ty T = some s ∧ Act.V (av.put o.dst v) d = .pointer (some ⟨b, 0, none⟩) ∧ B.w.heap.size ≤ b ∧ b < w'.heap.size ∧ col' b = none ∧ w'.heap[b]? = some (.cells (zcells s).toArray T (0, 0)) ∧
      Act.V (av.put o.dst v) d = Act.V av d ∧ b < w.heap.size := by
  obtain ⟨op, d, T, s, b, h1, h2, h3, h4, h5, h6, h7, h8, h9⟩ := S.early k hD hk
  have sp := G.sep k op h1 (.inr (by rw [h2]; rfl)) i o hi
  have hv : Act.V (av.put o.dst v) d = Act.V av d := by rw [V_put, if_neg (fun e => sp.dst hne d h3 e.1)]
  obtain ⟨g1, g2⟩ := hn b h7 h8
  exact ⟨op, d, T, s, b, h1, h2, h3, h4, hv.trans h5, h6, Nat.lt_of_lt_of_le h7 hsz, g1, g2.trans h9, hv, h7⟩
theorem Sim.apart' (S : Sim P C B rid ops fx V D ar av w col σ) (G : Reg C rid ops) {i : Nat} {o : Oper} (hi : ops[i]? = some o) {v : Value} {k : Nat} (hD : InD D k) (hk : k ∉ V) (hne : i ≠ k) {op : Oper} {d : Nat} (hop : ops[k]? = some op) (hd : op.dst = some d) : Act.V (av.put o.dst v) d = Act.V av d := by
  obtain ⟨op', d', T, s, b, h1, h2, h3, _⟩ := S.early k hD hk
  rw [hop] at h1
  injection h1 with h1
  subst h1
  have sp := G.sep k op hop (.inr (by rw [h2]; rfl)) i o hi
  rw [V_put, if_neg (fun e => sp.dst hne d hd e.1)]
theorem Fixed.put {a : Act} (h : Fixed fx a) {d : Option Nat} (hd : ∀ t v, (t, v) ∈ fx → d ≠ some t) (v : Value) : Fixed fx (a.put d v) := fun t u hm => by
  rw [V_put, if_neg (fun e => hd t u hm e.1)]; exact h t u hm
theorem Sim.calm (hC : CtxOk P C) (hfx : ∀ t v, (t, v) ∈ fx → t ∈ C.fix) (S : Sim P C B rid ops fx V D ar av w col σ) (G : Reg C rid ops) {i : Nat} {o : Oper} (hi : ops[i]? = some o) (hV : i ∉ V) (hdp : depsIn V o.after.toList = true) (hc : calmOp (C.hint rid i) o.op = true)
    (he : evalStep C rid ops.toList i o σ K = some res) : ∃ av' col' σ', Sim P C B rid ops fx (i :: V) D ar av' w col' σ' ∧ K σ' = some res := by
  obtain ⟨hd, v, σ', ⟨col', I'⟩, hk, hp⟩ := calm_step hC hfx S.inv.base hc he
  have hD : ¬ InD D i := fun h => by
    rcases S.sub i h with h | h
    · exact hV h
    · have := (allocs_mem hi).1 h
      rw [calm_not_alloc hc] at this; cases this
  have self := (G.sep i o hi (.inl hc) i o hi).self rfl
  have hn : ∀ b, b < w.heap.size → col b = none → col' b = none ∧ w.heap[b]? = w.heap[b]? := fun b hb h => ⟨(I'.frm.col b hb (.inl h)).trans h, rfl⟩
  refine ⟨av.put o.dst v, col', σ', ⟨I'.rebase S.inv.frm, S.fixed.put hd v, by rw [size_put]; exact S.size, S.dfr, S.dsz, S.dcl, fun j h => ?_, ⟨⟨o, hi, hdp⟩, S.ord⟩, fun t ht => ?_, fun p hpV hpD => ?_, fun k hkD hkV => ?_, fun k k' h1 h2 h3 h4 h5 o1 o2 d1 d2 g1 g2 g3 g4 => ?_⟩, hk⟩
  · rcases S.sub j h with h | h
    · exact .inl (List.mem_cons_of_mem _ h)
    · exact .inr h
  · rw [S.agree t (fun p hp hpD => ht p (List.mem_cons_of_mem _ hp) hpD), V_put, if_neg]
    exact fun e => ht i (List.mem_cons_self ..) hD o hi e.1
  · by_cases e : p = i
    · subst e
      refine ⟨o, hi, hc, hd, v, fun d hd' hl => ?_, hp.mono (G.sel p o hi) (size_put _ _ _) (fun t ht => ?_) (fun hw => ⟨StillW.refl _ _ _, Nat.le_refl _⟩)⟩
      · rw [size_put] at hl
        rw [V_put, if_pos ⟨hd', hl⟩]
      · rw [V_put, if_neg (fun e => self t e.1 ht)]
    · exact S.pend' G hi hV (.inl (by rw [hc]; rfl)) (Nat.le_refl _) ((List.mem_cons.1 hpV).resolve_left e) hpD (fun _ _ _ => StillW.refl _ _ _)
  · have hne : i ≠ k := fun e => hkV (by rw [← e]; exact List.mem_cons_self ..)
    obtain ⟨op, d, T, s, b, h1, h2, h3, h4, h5, h6, h7, h8, h9, _⟩ := S.early' G hi (v := v) (Nat.le_refl _) hn hkD (fun h => hkV (List.mem_cons_of_mem _ h)) hne
    exact ⟨op, d, T, s, b, h1, h2, h3, h4, h5, h6, h7, h8, h9⟩
  · have n1 : i ≠ k := fun e => h2 (by rw [← e]; exact List.mem_cons_self ..)
    have n2 : i ≠ k' := fun e => h4 (by rw [← e]; exact List.mem_cons_self ..)
    have m1 : k ∉ V := fun h => h2 (List.mem_cons_of_mem _ h)
    have m2 : k' ∉ V := fun h => h4 (List.mem_cons_of_mem _ h)
    rw [S.apart' G hi h1 m1 n1 g1 g3, S.apart' G hi h3 m2 n2 g2 g4]
    exact S.apartE k k' h1 m1 h3 m2 h5 o1 o2 d1 d2 g1 g2 g3 g4
theorem evalStep_alloc {i : Nat} {o : Oper} {T : TypeId} {d : Nat} (hop : o.op = .alloc T) (hd : o.dst = some d) (hg : o.guard = none) (he : evalStep C rid ops.toList i o σ K = some res) :
    ∃ s, C.ty T = some s ∧ zeroable s = true ∧ K (Ev.put σ d (.val (.ptr s) (.ow (topM s)) (zero s))) = some res ∧ d ∉ C.fix := by
  unfold evalStep at he
  have hfix : memO C.fix o.dst = false := by
    cases h : memO C.fix o.dst
    · rfl
    · rw [h] at he; cases he
  rw [hfix, hg] at he
  simp only [bif3] at he
  unfold evalOp at he
  rw [hop, hd] at he
  simp only [stO] at he
  split at he
  · rename_i s hT
    obtain ⟨hz, he⟩ := bif3_some he
    refine ⟨s, hT, hz, he, fun hm => ?_⟩
    rw [hd] at hfix
    exact memO_false hfix d hm rfl
  · cases he
theorem Sim.alloc (S : Sim P C B rid ops fx V D ar av w col σ) {i : Nat} {o : Oper} (hi : ops[i]? = some o) (hV : i ∉ V) (hdp : depsIn V o.after.toList = true) (hD : InD D i) (hg : o.guard = none)
    (he : evalStep C rid ops.toList i o σ K = some res) : ∃ col' σ', Sim P C B rid ops fx (i :: V) D ar av w col' σ' ∧ K σ' = some res := by
  obtain ⟨op, d, T, s, b, h1, h2, h3, h4, h5, h6, h7, h8, h9⟩ := S.early i hD hV
  rw [hi] at h1
  injection h1 with h1
  subst h1
  obtain ⟨s', g1, g2, g3, _⟩ := evalStep_alloc h2 h3 hg he
  rw [h4] at g1
  injection g1 with g1
  subst g1
  have hl := zcells_len s g2
  have I1 := S.inv.claim h8 h6 [d]
  have I2 : InvC P B (fun x => if x = b then some [d] else col x) (Ev.put σ d (.val (.ptr s) (.ow (topM s)) (zero s))) av w := by
    refine I1.replace (fun _ _ _ => rfl) (fun _ _ h => h) ⟨[.pointer (some ⟨b, 0, none⟩)], ⟨⟨b, 0, none⟩, zcells s, rfl, rfl, fun _ => ⟨by simp, _, T, h9, ?_⟩, fun h => by simp [isOw] at h, ?_, ?_⟩, ?_⟩ (fun _ => rfl)
    · simp [hl]
    · intro j v hj
      unfold World.cell?
      simp only [h9]
      simpa using hj
    · exact Rep_zero s _ _ _ g2
    · show [Value.pointer (some ⟨b, 0, none⟩)] = [Act.V av d]
      rw [h5]
  refine ⟨_, _, ⟨I2, S.fixed, S.size, S.dfr, S.dsz, S.dcl, fun j h => ?_, ⟨⟨o, hi, hdp⟩, S.ord⟩, fun t ht => S.agree t (fun p hp hpD => ht p (List.mem_cons_of_mem _ hp) hpD), fun p hp hpD => ?_, fun k hkD hkV => ?_, fun k k' h1 h2 h3 h4 h5 => ?_⟩, g3⟩
  · rcases S.sub j h with h | h
    · exact .inl (List.mem_cons_of_mem _ h)
    · exact .inr h
  · rcases List.mem_cons.1 hp with e | hp
    · subst e; exact absurd hD hpD
    · exact S.pend p hp hpD
  · have hne : i ≠ k := fun e => hkV (by rw [← e]; exact List.mem_cons_self ..)
    have hk : k ∉ V := fun h => hkV (List.mem_cons_of_mem _ h)
    obtain ⟨op, d', T', s', b', k1, k2, k3, k4, k5, k6, k7, k8, k9⟩ := S.early k hkD hk
    refine ⟨op, d', T', s', b', k1, k2, k3, k4, k5, k6, k7, ?_, k9⟩
    have hbb : b' ≠ b := fun e => S.apartE i k hD hV hkD hk hne o op d d' hi k1 h3 k3 (by rw [h5, k5, e])
    simp only [if_neg hbb]; exact k8
  · exact S.apartE k k' h1 (fun h => h2 (List.mem_cons_of_mem _ h)) h3 (fun h => h4 (List.mem_cons_of_mem _ h)) h5
end
end Go.Ev

noncomputable section
namespace Go.Ev
variable {P : Program}
section
variable {C : Ctx} {B : Base} {R : Type} {K : List Slot → Option R} {res : R} {Q : Exit → Act → World → Prop}
variable {rid : Nat} {ops : Array Oper} {fx : List (Nat × Value)} {V : List Nat} {D : Array Bool} {ar av : Act} {w : World} {col : Col} {σ : List Slot}
theorem Sim.looks (S : Sim P C B rid ops fx V D ar av w col σ) (G : Reg C rid ops) {i : Nat} {o : Oper} (hi : ops[i]? = some o) (hr : i ∈ Region.ready .any ops D) : ∀ t, t ∈ looks ops.toList o → Act.V ar t = Act.V av t := by
  intro t ht
  refine S.agree t (fun p hp hD op hop e => ?_)
  obtain ⟨op', h1, h2, _, _⟩ := S.pend p hp hD
  rw [hop] at h1
  injection h1 with h1
  subst h1
  have sp := G.sep p op hop (.inl h2) i o hi
  by_cases hne : i = p
  · exact sp.self hne t e ht
  · obtain ⟨ed, h3, h4, h5⟩ := sp.r1 hne t e ht
    obtain ⟨_, o', h6, h7⟩ := mem_ready.1 hr
    rw [hi] at h6
    injection h6 with h6
    subst h6
    have := h7 ed (Array.mem_toList_iff.1 h3) h4
    rw [h5] at this
    exact hD this
theorem Sim.lt (S : Sim P C B rid ops fx V D ar av w col σ) {i : Nat} {o : Oper} (hi : ops[i]? = some o) : i < D.size := by
  rw [S.dsz]; exact (Array.getElem?_eq_some_iff.1 hi).1
theorem Sim.dclSet (S : Sim P C B rid ops fx V D ar av w col σ) {i : Nat} (hr : i ∈ Region.ready .any ops D) (hlt : i < D.size) : ∀ j o, InD (D.setIfInBounds i true) j → ops[j]? = some o → ∀ e ∈ o.after.toList, Region.binds .any e = true → InD (D.setIfInBounds i true) e.on := by
  intro j oj hj hoj e he hb
  rcases (InD_set hlt).1 hj with h | h
  · subst h
    obtain ⟨_, o', h6, h7⟩ := mem_ready.1 hr
    rw [hoj] at h6
    injection h6 with h6
    subst h6
    exact (InD_set hlt).2 (.inr (h7 e (Array.mem_toList_iff.1 he) hb))
  · exact (InD_set hlt).2 (.inr (S.dcl j oj h hoj e he hb))
theorem Sim.real (S : Sim P C B rid ops fx V D ar av w col σ) (G : Reg C rid ops) {i : Nat} {o : Oper} (hi : ops[i]? = some o) (hr : i ∈ Region.ready .any ops D) (hV : i ∈ V) {K' : Act → World → Prop}
    (hK : ∀ ar', Sim P C B rid ops fx V (D.setIfInBounds i true) ar' av w col σ → K' ar' w) : wpOp P ops Q i K' ar w := by
  have hnD : ¬ InD D i := InD_of (mem_ready.1 hr).1
  obtain ⟨o', h1, h2, h3, v, h4, h5⟩ := S.pend i hV hnD
  rw [hi] at h1
  injection h1 with h1
  subst h1
  have hl := S.looks G hi hr
  have e1 := exec_congr (G.sel i o hi) hl
  have e2 := wanted_congr S.size hl
  have hlt := S.lt hi
  have next : Sim P C B rid ops fx V (D.setIfInBounds i true) (ar.put o.dst v) av w col σ := by
    refine ⟨S.inv, S.fixed, by rw [size_put]; exact S.size, by cases hd : o.dst <;> exact S.dfr, by simp [S.dsz], S.dclSet hr (S.lt hi), fun j h => ?_, S.ord, fun t ht => ?_, fun p hp hD => ?_, fun k hD hk => ?_, fun k k' g1 g2 g3 g4 => ?_⟩
    · rcases (InD_set hlt).1 h with h | h
      · subst h; exact .inl hV
      · exact S.sub j h
    · rw [V_put]
      by_cases e : o.dst = some t ∧ t < ar.tmps.size
      · rw [if_pos e]; exact (h4 t e.1 (by rw [← S.size]; exact e.2)).symm
      · rw [if_neg e]
        by_cases e' : o.dst = some t
        · have hsz : ar.tmps.size ≤ t := Nat.le_of_not_lt (fun h => e ⟨e', h⟩)
          rw [V_out hsz, V_out (by rw [← S.size]; exact hsz)]
        · refine S.agree t (fun p hp hD op hop => ?_)
          by_cases hpi : p = i
          · subst hpi
            rw [hi] at hop
            injection hop with hop
            subst hop
            exact e'
          · exact ht p hp (fun h => by
              rcases (InD_set hlt).1 h with h | h
              · exact hpi h
              · exact hD h) op hop
    · exact S.pend p hp (fun h => hD ((InD_set hlt).2 (.inr h)))
    · rcases (InD_set hlt).1 hD with h | h
      · subst h; exact absurd hV hk
      · exact S.early k h hk
    · rcases (InD_set hlt).1 g1 with h | h
      · subst h; exact absurd hV g2
      · rcases (InD_set hlt).1 g3 with h' | h'
        · subst h'; exact absurd hV g4
        · exact S.apartE k k' h g2 h' g4
  unfold wpOp
  simp only [hi]
  rw [e2]
  rcases h5 with ⟨hw, hrun, _⟩ | ⟨hw, hv⟩
  · rw [hw]
    simp only [if_true]
    refine .inl ?_
    unfold Oper.wp
    rw [e1, hrun w (StillW.refl _ _ _)]
    exact hK _ next
  · rw [hw]
    simp only [Bool.false_eq_true, if_false]
    rw [← hv]
    exact hK _ next
def colNone (w : World) (col : Col) : Col := fun b => if b = w.heap.size then none else col b
theorem grown_none (w : World) (col : Col) (o : Obj) : Grown w (w.alloc o) col (colNone w col) := by
  refine ⟨by show w.heap.size ≤ (w.heap.push o).size; simp, fun b hb => ?_, fun b hb => ?_, ⟨rfl, rfl, rfl⟩⟩
  · show (w.heap.push o)[b]? = _
    simp [Array.getElem?_push, Nat.ne_of_lt hb]
  · unfold colNone; rw [if_neg (Nat.ne_of_lt hb)]
theorem Sim.ahead (hC : CtxOk P C) (hfx : ∀ t v, (t, v) ∈ fx → t ∈ C.fix) (S : Sim P C B rid ops fx V D ar av w col σ) (G : Reg C rid ops) {i : Nat} {o : Oper} (hi : ops[i]? = some o) (hr : i ∈ Region.ready .any ops D) (hV : i ∉ V) {T : TypeId} {d : Nat} {s : Go.Ev.S}
    (hop : o.op = .alloc T) (hd : o.dst = some d) (hg : o.guard = none) (hT : C.ty T = some s) (hz : zeroable s = true) (hdl : d < σ.length) (hgs : gs σ d = .dead) (hdf : d ∉ C.fix) {K' : Act → World → Prop}
    (hK : ∀ ar' av' w' col', Sim P C B rid ops fx V (D.setIfInBounds i true) ar' av' w' col' σ → K' ar' w') : wpOp P ops Q i K' ar w := by
  have hf := hC.ty T s hT
  obtain ⟨inf, z, h1, h2, h3, h4, h5⟩ := hf.info
  have hl := zcells_len s hz
  have hcz : z.cells = (zcells s).toArray := by rw [← h5]
  have hrun : (execOp ar.eval o).run P w = .ok (.value (.pointer (some ⟨w.heap.size, 0, none⟩))) (w.alloc (.cells z.cells T)) := by
    simp [execOp, hop, Instr.alloc, zeroValue, typeInfo, h1, h4, newVar, newRow]
  have hlt := S.lt hi
  have Gr := grown_none w col (.cells z.cells T)
  have hnD : ¬ InD D i := InD_of (mem_ready.1 hr).1
  have I1 : InvC P B (colNone w col) σ (av.put o.dst (.pointer (some ⟨w.heap.size, 0, none⟩))) (w.alloc (.cells z.cells T)) := by
    have := (S.inv.grow Gr).put (d := d) (v := .pointer (some ⟨w.heap.size, 0, none⟩)) (y := .dead) trivial
    rw [put_dead_self S.inv hgs] at this
    rw [hd]; exact this
  have hsz : d < av.tmps.size := by rw [S.inv.len]; exact hdl
  have hsz1 : (w.alloc (.cells z.cells T)).heap.size = w.heap.size + 1 := by show (w.heap.push _).size = _; simp
  have hn : ∀ b, b < w.heap.size → col b = none → colNone w col b = none ∧ (w.alloc (.cells z.cells T)).heap[b]? = w.heap[b]? := fun b hb h => ⟨(Gr.col b hb).trans h, Gr.mem b hb⟩
  have hVd : Act.V (av.put o.dst (.pointer (some ⟨w.heap.size, 0, none⟩))) d = .pointer (some ⟨w.heap.size, 0, none⟩) := by rw [V_put, if_pos ⟨hd, hsz⟩]
  have next : Sim P C B rid ops fx V (D.setIfInBounds i true) (ar.put o.dst (.pointer (some ⟨w.heap.size, 0, none⟩))) (av.put o.dst (.pointer (some ⟨w.heap.size, 0, none⟩))) (w.alloc (.cells z.cells T)) (colNone w col) σ := by
    refine ⟨I1, S.fixed.put (fun t v hm e => ?_) _, by rw [size_put, size_put]; exact S.size, by rw [hd]; exact S.dfr, by simp [S.dsz], S.dclSet hr (S.lt hi), fun j h => ?_, S.ord, fun t ht => ?_, fun p hp hD => ?_, fun k hD hk => ?_, fun k k' g1 g2 g3 g4 hne o1 o2 d1 d2 q1 q2 q3 q4 => ?_⟩
    · rw [hd] at e; injection e with e; subst e; exact hdf (hfx _ _ hm)
    · rcases (InD_set hlt).1 h with h | h
      · subst h; exact .inr ((allocs_mem hi).2 (by rw [hop]; rfl))
      · exact S.sub j h
    · rw [V_put, V_put]
      by_cases e : o.dst = some t ∧ t < ar.tmps.size
      · rw [if_pos e, if_pos ⟨e.1, by rw [← S.size]; exact e.2⟩]
      · rw [if_neg e, if_neg (fun h => e ⟨h.1, by rw [S.size]; exact h.2⟩)]
        exact S.agree t (fun p hp hD => ht p hp (fun h => by
          rcases (InD_set hlt).1 h with h | h
          · subst h; exact hV hp
          · exact hD h))
    · refine S.pend' G hi hV (.inl (by rw [hop]; simp [isAlloc])) (by rw [hsz1]; omega) hp (fun h => hD ((InD_set hlt).2 (.inr h))) (fun op hop' hw => ?_)
      unfold StillW
      unfold InW at hw
      split
      · rename_i T' x hop2
        rw [hop2] at hw
        intro ad hx
        exact Gr.mem _ (hw ad hx)
      · trivial
    · rcases (InD_set hlt).1 hD with h | h
      · subst h
        refine ⟨o, d, T, s, w.heap.size, hi, hop, hd, hT, hVd, S.inv.frm.sz, by rw [hsz1]; omega, by unfold colNone; rw [if_pos rfl], ?_⟩
        rw [heap_alloc_new, hcz]
      · have hne : i ≠ k := fun e => hnD (e ▸ h)
        obtain ⟨op, d', T', s', b, k1, k2, k3, k4, k5, k6, k7, k8, k9, _⟩ := S.early' G hi (v := .pointer (some ⟨w.heap.size, 0, none⟩)) (w' := w.alloc (.cells z.cells T)) (by rw [hsz1]; omega) hn h hk hne
        exact ⟨op, d', T', s', b, k1, k2, k3, k4, k5, k6, k7, k8, k9⟩
    · have old : ∀ k, InD D k → k ∉ V → i ≠ k → ∀ op dd, ops[k]? = some op → op.dst = some dd → Act.V (av.put o.dst (.pointer (some ⟨w.heap.size, 0, none⟩))) dd = Act.V av dd ∧ ∃ b, Act.V av dd = .pointer (some ⟨b, 0, none⟩) ∧ b < w.heap.size := by
        intro k h1 h2 h3 op dd h4 h5
        have e := S.apart' G hi (v := .pointer (some ⟨w.heap.size, 0, none⟩)) h1 h2 h3 h4 h5
        obtain ⟨op', d', T', s', b, k1, k2, k3, k4, k5, k6, k7, k8, k9⟩ := S.early k h1 h2
        rw [h4] at k1
        injection k1 with k1
        subst k1
        rw [h5] at k3
        injection k3 with k3
        subst k3
        exact ⟨e, b, k5, k7⟩
      rcases (InD_set hlt).1 g1 with h | h <;> rcases (InD_set hlt).1 g3 with h' | h'
      · exact absurd (h.trans h'.symm) hne
      · subst h
        rw [hi] at q1
        injection q1 with q1
        subst q1
        rw [hd] at q3
        injection q3 with q3
        subst q3
        obtain ⟨e, b, e2, e3⟩ := old k' h' g4 hne o2 d2 q2 q4
        rw [hVd, e, e2]
        intro e
        simp at e
        omega
      · subst h'
        rw [hi] at q2
        injection q2 with q2
        subst q2
        rw [hd] at q4
        injection q4 with q4
        subst q4
        obtain ⟨e, b, e2, e3⟩ := old k h g2 (fun e => hne e.symm) o1 d1 q1 q3
        rw [hVd, e, e2]
        intro e
        simp at e
        omega
      · have n1 : i ≠ k := fun e => hnD (e ▸ h)
        have n2 : i ≠ k' := fun e => hnD (e ▸ h')
        rw [(old k h g2 n1 o1 d1 q1 q3).1, (old k' h' g4 n2 o2 d2 q2 q4).1]
        exact S.apartE k k' h g2 h' g4 hne o1 o2 d1 d2 q1 q2 q3 q4
  have hw : Region.wanted o (yielded ops ar.tmps) = true := by simp [Region.wanted, hg]
  unfold wpOp
  simp only [hi]
  rw [hw]
  simp only [if_true]
  refine .inl ?_
  unfold Oper.wp
  rw [hrun]
  exact hK _ _ _ _ next
end
end Go.Ev

noncomputable section
namespace Go.Ev
variable {P : Program}
section
variable {C : Ctx} {B : Base} {R : Type} {K : List Slot → Option R} {res : R} {Q : Exit → Act → World → Prop}
variable {rid : Nat} {ops : Array Oper} {fx : List (Nat × Value)} {V : List Nat} {D : Array Bool} {ar av : Act} {w : World} {col : Col} {σ : List Slot}
theorem loadsSafe_spec {all : List Oper} {σ : List Slot} {rs : List Nat} {after : List Nat} : ∀ {l : List Nat}, loadsSafe all σ rs after l = true → ∀ p ∈ l, ∀ (o : Oper) T x, nth all p = some o → o.op = .load T x → memN p after = true ∨ safeSlot σ rs (Ev.rdo σ none x) = true
  | [], _, p, h => by simp at h
  | q :: l, h, p, hm => by
    intro o T x ho hop
    simp only [loadsSafe, Bool.and_eq_true] at h
    rcases List.mem_cons.1 hm with e | hm
    · subst e
      have h1 := h.1
      rw [ho] at h1
      simp only [hop, Bool.or_eq_true] at h1
      exact h1
    · exact loadsSafe_spec h.2 p hm o T x ho hop
theorem depList_spec {l : List Edge} {p : Nat} : p ∈ depList l → ∃ e ∈ l, Region.binds .any e = true ∧ e.on = p := by
  induction l with
  | nil => intro h; simp [depList] at h
  | cons e l ih =>
    intro h
    simp only [depList] at h
    cases hb : Region.binds .any e <;> rw [hb] at h <;> simp only [bif3] at h
    · obtain ⟨e', h1, h2⟩ := ih h
      exact ⟨e', List.mem_cons_of_mem _ h1, h2⟩
    · rcases List.mem_cons.1 h with h | h
      · exact ⟨e, List.mem_cons_self .., hb, h.symm⟩
      · obtain ⟨e', h1, h2⟩ := ih h
        exact ⟨e', List.mem_cons_of_mem _ h1, h2⟩
theorem closeD_ok {ops : Array Oper} {D : Array Bool} (hD : ∀ i o, InD D i → ops[i]? = some o → ∀ e ∈ o.after.toList, Region.binds .any e = true → InD D e.on) : ∀ (V A : List Nat), (∀ q ∈ A, InD D q) → ∀ p ∈ closeD ops.toList V A, InD D p
  | [], A, h, p, hp => h p hp
  | q :: V, A, h, p, hp => by
    simp only [closeD] at hp
    refine closeD_ok hD V _ (fun x hx => ?_) p hp
    cases hm : memN q A <;> rw [hm] at hx <;> simp only [bif3] at hx
    · exact h x hx
    · rcases List.mem_append.1 hx with hx | hx
      · unfold depsOf at hx
        split at hx
        · rename_i o ho
          obtain ⟨e, h1, h2, h3⟩ := depList_spec hx
          rw [nth_get, Array.getElem?_toList] at ho
          rw [← h3]
          exact hD q o (h q (memN_iff.1 hm)) ho e h1 h2
        · simp at hx
      · exact h x hx
theorem memN_not {n : Nat} {l : List Nat} (h : memN n l = false) : n ∉ l := fun e => by rw [memN_iff.2 e] at h; cases h
theorem Sim.both (hC : CtxOk P C) (hfx : ∀ t v, (t, v) ∈ fx → t ∈ C.fix) (S : Sim P C B rid ops fx V D ar av w col σ) (G : Reg C rid ops) {i : Nat} {o : Oper} (hi : ops[i]? = some o) (hr : i ∈ Region.ready .any ops D) (hV : i ∉ V) (hdp : depsIn V o.after.toList = true) (hna : isAlloc o.op = false)
    {rs : List Nat} (hld : loadsSafe ops.toList σ rs (closeD ops.toList V (depList o.after.toList)) V = true) (he : evalHid rs o.dst σ (evalStep C rid ops.toList i o) K = some res) {K' : Act → World → Prop}
    (hK : ∀ ar' av' w' col' σ', Sim P C B rid ops fx (i :: V) (D.setIfInBounds i true) ar' av' w' col' σ' → K σ' = some res → K' ar' w') : wpOp P ops Q i K' ar w := by
  unfold evalHid at he
  obtain ⟨hoh, he⟩ := bif3_some he
  have hroots := okHid_spec hoh
  obtain ⟨ch, Ih, H⟩ := S.inv.hide rs
  obtain ⟨hd, hcase⟩ := evalStep_cases hfx Ih.base he
  have hl := S.looks G hi hr
  have e1 := exec_congr (G.sel i o hi) hl
  have e2 := wanted_congr S.size hl
  have hlt := S.lt hi
  have hnD : ¬ InD D i := InD_of (mem_ready.1 hr).1
  have hdeps : ∀ e ∈ o.after.toList, Region.binds .any e = true → InD D e.on := fun e he hb => by
    obtain ⟨_, o', h6, h7⟩ := mem_ready.1 hr
    rw [hi] at h6
    injection h6 with h6
    subst h6
    exact h7 e (Array.mem_toList_iff.1 he) hb
  have next : ∀ v w' c2 σ2, InvC P ⟨w, ch⟩ c2 σ2 (av.put o.dst v) w' → bif3 (allDead σ2 rs) (K (Ev.unhide rs o.dst 0 σ σ2)) none = some res → K' (ar.put o.dst v) w' := by
    intro v w' c2 σ2 I2 hk
    obtain ⟨had, hk⟩ := bif3_some hk
    have hlen : σ2.length = σ.length := by rw [← I2.len, size_put, S.inv.len]
    obtain ⟨I3, kp⟩ := S.inv.unhide H I2 hlen (fun t ht => by rw [V_put, if_neg (fun e => ht e.1)]) hroots (allDead_spec had)
    have hn : ∀ b, b < w.heap.size → col b = none → colU w col ch c2 b = none ∧ w'.heap[b]? = w.heap[b]? := fun b hb h => by
      have := kp.quiet b hb (.inl h)
      exact ⟨this.1.trans h, this.2⟩
    refine hK _ (av.put o.dst v) w' _ _ ⟨I3, S.fixed.put hd v, by rw [size_put, size_put]; exact S.size, by cases hdd : o.dst <;> exact S.dfr, by simp [S.dsz], S.dclSet hr (S.lt hi), fun j h => ?_, ⟨⟨o, hi, hdp⟩, S.ord⟩, fun t ht => ?_, fun p hp hpD => ?_, fun k hkD hkV => ?_, fun k k' h1 h2 h3 h4 h5 o1 o2 d1 d2 g1 g2 g3 g4 => ?_⟩ hk
    · rcases (InD_set hlt).1 h with h | h
      · subst h; exact .inl (List.mem_cons_self ..)
      · rcases S.sub j h with h | h
        · exact .inl (List.mem_cons_of_mem _ h)
        · exact .inr h
    · rw [V_put, V_put]
      by_cases e : o.dst = some t ∧ t < ar.tmps.size
      · rw [if_pos e, if_pos ⟨e.1, by rw [← S.size]; exact e.2⟩]
      · rw [if_neg e, if_neg (fun h => e ⟨h.1, by rw [S.size]; exact h.2⟩)]
        exact S.agree t (fun p hp hD => ht p (List.mem_cons_of_mem _ hp) (fun h => by
          rcases (InD_set hlt).1 h with h | h
          · subst h; exact hV hp
          · exact hD h))
    · have hpi : p ≠ i := fun e => hpD ((InD_set hlt).2 (.inl e))
      have hpV : p ∈ V := (List.mem_cons.1 hp).resolve_left hpi
      have hpD' : ¬ InD D p := fun h => hpD ((InD_set hlt).2 (.inr h))
      refine S.pend' G hi hV (.inr hdeps) kp.sz hpV hpD' (fun op hop hw => ?_)
      unfold StillW
      unfold InW at hw
      split
      · rename_i T x hop2
        rw [hop2] at hw
        simp only at hw
        intro ad hx
        have hb := hw ad hx
        rcases loadsSafe_spec hld p hpV op T x (by rw [nth_get, Array.getElem?_toList]; exact hop) hop2 with h | h
        · have := closeD_ok S.dcl V _ (fun q hq => by
            obtain ⟨e, he1, he2, he3⟩ := depList_spec hq
            rw [← he3]; exact hdeps e he1 he2) p (memN_iff.1 h)
          exact absurd this hpD'
        · rcases safe_block S.inv h hx with h | ⟨r, q, h, hm⟩
          · exact (kp.quiet _ hb (.inr h)).2
          · exact (kp.own _ r q hb h hm).2
      · trivial
    · have hne : i ≠ k := fun e => hkV (by rw [← e]; exact List.mem_cons_self ..)
      have hkD' : InD D k := ((InD_set hlt).1 hkD).resolve_left (fun e => hne e.symm)
      obtain ⟨op, d, T, s, b, h1, h2, h3, h4, h5, h6, h7, h8, h9, _⟩ := S.early' G hi (v := v) kp.sz hn hkD' (fun h => hkV (List.mem_cons_of_mem _ h)) hne
      exact ⟨op, d, T, s, b, h1, h2, h3, h4, h5, h6, h7, h8, h9⟩
    · have n1 : i ≠ k := fun e => h2 (by rw [← e]; exact List.mem_cons_self ..)
      have n2 : i ≠ k' := fun e => h4 (by rw [← e]; exact List.mem_cons_self ..)
      have m1 : k ∉ V := fun h => h2 (List.mem_cons_of_mem _ h)
      have m2 : k' ∉ V := fun h => h4 (List.mem_cons_of_mem _ h)
      have h1' : InD D k := ((InD_set hlt).1 h1).resolve_left (fun e => n1 e.symm)
      have h3' : InD D k' := ((InD_set hlt).1 h3).resolve_left (fun e => n2 e.symm)
      rw [S.apart' G hi h1' m1 n1 g1 g3, S.apart' G hi h3' m2 n2 g2 g4]
      exact S.apartE k k' h1' m1 h3' m2 h5 o1 o2 d1 d2 g1 g2 g3 g4
  unfold wpOp
  simp only [hi]
  rw [e2]
  rcases hcase with ⟨hw, σ', I', hev⟩ | ⟨hw, σ', I', hk⟩
  · rw [hw]
    simp only [if_true]
    refine .inl ?_
    have h1 : o.wp P av w (fun a' w' => ∃ c2 σ2, InvC P ⟨w, ch⟩ c2 σ2 a' w' ∧ bif3 (allDead σ2 rs) (K (Ev.unhide rs o.dst 0 σ σ2)) none = some res) (fun _ _ _ => False) :=
      evalOp_ok hC ⟨ch, I'⟩ (fun σ2 a' w' ⟨c2, g1⟩ g2 => ⟨c2, σ2, g1, g2⟩) hev
    exact wp_conv h1 e1 (fun a w ⟨c2, σ2, g1, _⟩ => g1.dfr) (fun v w' ⟨c2, σ2, g1, g2⟩ => next v w' c2 σ2 g1 g2)
  · rw [hw]
    simp only [Bool.false_eq_true, if_false]
    exact next _ w _ _ I' hk
def Adv (C : Ctx) (rid : Nat) (ops : Array Oper) (D : Array Bool) : List Nat → Prop
  | [] => True
  | i :: _ => ops[i]? = none ∨ ∃ o, ops[i]? = some o ∧ calmOp (C.hint rid i) o.op = false ∧ (isAlloc o.op = true → ¬ InD D i)
theorem Sim.recol (S : Sim P C B rid ops fx V D ar av w col σ) {col' : Col} {σ' : List Slot} (I : InvC P B col' σ' av w) (hq : ∀ b, Quiet (col b) → col' b = col b) : Sim P C B rid ops fx V D ar av w col' σ' :=
  ⟨I, S.fixed, S.size, S.dfr, S.dsz, S.dcl, S.sub, S.ord, S.agree, S.pend, fun k h1 h2 => by
    obtain ⟨o, d, T, s, b, g1, g2, g3, g4, g5, g6, g7, g8, g9⟩ := S.early k h1 h2
    exact ⟨o, d, T, s, b, g1, g2, g3, g4, g5, g6, g7, by rw [hq b (.inl g8)]; exact g8, g9⟩, S.apartE⟩
theorem Sim.pulled (S : Sim P C B rid ops fx V D ar av w col σ) (h : Nat) (op : Op) : ∃ col', Sim P C B rid ops fx V D ar av w col' (pullA h op σ) := by
  have base : ∃ col', Sim P C B rid ops fx V D ar av w col' σ := ⟨col, S⟩
  unfold pullA
  cases ltb 4095 h
  · simp only [bif3]
    cases (Nat.beq h 4 || ltb 7 h)
    · exact base
    · simp only [bif3]
      split
      · split
        · rename_i t _
          obtain ⟨col', I, hq⟩ := S.inv.pull1 t
          exact ⟨col', S.recol I hq⟩
        · exact base
      · exact base
  · simp only [bif3]
    split
    · rename_i c
      obtain ⟨col', I, hq⟩ := S.inv.frzA c.args.toList ((h - 4096) % 256)
      exact ⟨col', S.recol I hq⟩
    · exact base
theorem drawW_some {i : Nat} {wt : Bool} {K : List Slot → Option R} (he : drawW C rid ops.toList (allocs 0 ops.toList) i wt V σ K = some res) : ∃ o, ops[i]? = some o ∧ i ∉ V ∧ depsIn V o.after.toList = true ∧ okAllocs C ops.toList V σ (allocs 0 ops.toList) = true ∧
    calmOp (C.hint rid i) o.op = false ∧ isAlloc o.op = false ∧ wt = true ∧ loadsSafe ops.toList (pullA (C.hint rid i) o.op σ) (C.hid rid i) (closeD ops.toList V (depList o.after.toList)) V = true ∧
      evalHid (C.hid rid i) o.dst (pullA (C.hint rid i) o.op σ) (evalStep C rid ops.toList i o) K = some res := by
  unfold drawW at he
  split at he
  · cases he
  · rename_i o ho
    rw [nth_get, Array.getElem?_toList] at ho
    obtain ⟨hb, he⟩ := bif3_some he
    simp only [Bool.and_eq_true, Bool.not_eq_true'] at hb
    rcases bif3_or he with ⟨_, h2⟩ | ⟨h1, h2⟩
    · cases h2
    · rcases bif3_or h2 with ⟨_, h4⟩ | ⟨h3, h4⟩
      · cases h4
      · obtain ⟨h5, h6⟩ := bif3_some h4
        simp only [Bool.and_eq_true] at h5
        exact ⟨o, ho, memN_not hb.1.1, hb.1.2, hb.2, h1, h3, h5.1, h5.2, h6⟩
theorem drawW_draw {i : Nat} {rest : List Nat} {K : List Slot → Option R} (he : drawW C rid ops.toList (allocs 0 ops.toList) i (waitAll V (allocs 0 ops.toList) (some i) 0 ops.toList) V σ (fun σ => evalDraw C rid ops.toList (allocs 0 ops.toList) rest (i :: V) σ K) = some res) : evalDraw C rid ops.toList (allocs 0 ops.toList) (i :: rest) V σ K = some res := by
  obtain ⟨o, h1, h2, h3, h4, h5, h6, h7, h8, h9⟩ := drawW_some he
  have hm : memN i V = false := by
    cases h : memN i V
    · rfl
    · exact absurd (memN_iff.1 h) h2
  have hn : nth ops.toList i = some o := by rw [nth_get, Array.getElem?_toList]; exact h1
  unfold evalDraw
  simp only [hn, hm, h3, h4, h5, h6, h7, h8, Bool.not_false, Bool.and_self, bif3]
  exact h9
theorem waitTwo_spec {V A : List Nat} {a b : Nat} : ∀ {l : List Oper} {i : Nat}, waitTwo V A a b i l = true → ∀ k o, l[k]? = some o → (i + k) ∈ V ∨ isAlloc o.op = true ∨ i + k = a ∨ i + k = b ∨ depsIn (V ++ A) o.after.toList = false
  | [], i, _, k, o, h => by simp at h
  | o' :: l, i, hw, k, o, h => by
    simp only [waitTwo, Bool.and_eq_true, Bool.or_eq_true, Bool.not_eq_true'] at hw
    cases k with
    | zero =>
      simp only [List.getElem?_cons_zero, Option.some.injEq] at h
      subst h
      rcases hw.1 with ((h1 | h1) | h1) | h1
      · exact .inl (memN_iff.1 h1)
      · exact .inr (.inl h1)
      · have : i ∈ [a, b] := memN_iff.1 h1
        simp only [List.mem_cons, List.not_mem_nil, or_false] at this
        rcases this with e | e
        · exact .inr (.inr (.inl e))
        · exact .inr (.inr (.inr (.inl e)))
      · exact .inr (.inr (.inr (.inr h1)))
    | succ k =>
      have := waitTwo_spec hw.2 k o (by simpa using h)
      rw [show i + (k + 1) = i + 1 + k by omega]; exact this
theorem evalDraw_cons {i : Nat} {rest : List Nat} (he : evalDraw C rid ops.toList (allocs 0 ops.toList) (i :: rest) V σ K = some res) : (ops[i]? = none ∧ ∃ x y rest', rest = x :: y :: rest' ∧
      drawW C rid ops.toList (allocs 0 ops.toList) x (waitTwo V (allocs 0 ops.toList) x y 0 ops.toList) V σ (fun σ => drawW C rid ops.toList (allocs 0 ops.toList) y (waitAll (x :: V) (allocs 0 ops.toList) (some y) 0 ops.toList) (x :: V) σ fun σ => evalDraw C rid ops.toList (allocs 0 ops.toList) rest' (y :: x :: V) σ K) = some res ∧
      drawW C rid ops.toList (allocs 0 ops.toList) y (waitTwo V (allocs 0 ops.toList) x y 0 ops.toList) V σ (fun σ => drawW C rid ops.toList (allocs 0 ops.toList) x (waitAll (y :: V) (allocs 0 ops.toList) (some x) 0 ops.toList) (y :: V) σ fun σ => evalDraw C rid ops.toList (allocs 0 ops.toList) rest' (x :: y :: V) σ K) = some res) ∨
    ∃ o, ops[i]? = some o ∧ i ∉ V ∧ depsIn V o.after.toList = true ∧ okAllocs C ops.toList V σ (allocs 0 ops.toList) = true ∧
    ((calmOp (C.hint rid i) o.op = true ∧ evalStep C rid ops.toList i o σ (fun σ => evalDraw C rid ops.toList (allocs 0 ops.toList) rest (i :: V) σ K) = some res) ∨
     (calmOp (C.hint rid i) o.op = false ∧ isAlloc o.op = true ∧ waitAll V (delN i (allocs 0 ops.toList)) none 0 ops.toList = true ∧ evalStep C rid ops.toList i o σ (fun σ => evalDraw C rid ops.toList (allocs 0 ops.toList) rest (i :: V) σ K) = some res) ∨
     (calmOp (C.hint rid i) o.op = false ∧ isAlloc o.op = false ∧ waitAll V (allocs 0 ops.toList) (some i) 0 ops.toList = true ∧ loadsSafe ops.toList (pullA (C.hint rid i) o.op σ) (C.hid rid i) (closeD ops.toList V (depList o.after.toList)) V = true ∧
      evalHid (C.hid rid i) o.dst (pullA (C.hint rid i) o.op σ) (evalStep C rid ops.toList i o) (fun σ => evalDraw C rid ops.toList (allocs 0 ops.toList) rest (i :: V) σ K) = some res)) := by
  unfold evalDraw at he
  split at he
  · rename_i ho
    rw [nth_get, Array.getElem?_toList] at ho
    split at he
    · rename_i x y rest'
      exact .inl ⟨ho, x, y, rest', rfl, tie_some he⟩
    · cases he
  · rename_i o ho
    rw [nth_get, Array.getElem?_toList] at ho
    obtain ⟨hb, he⟩ := bif3_some he
    simp only [Bool.and_eq_true, Bool.not_eq_true'] at hb
    refine .inr ⟨o, ho, memN_not hb.1.1, hb.1.2, hb.2, ?_⟩
    rcases bif3_or he with ⟨h1, h2⟩ | ⟨h1, h2⟩
    · exact .inl ⟨h1, h2⟩
    · rcases bif3_or h2 with ⟨h3, h4⟩ | ⟨h3, h4⟩
      · obtain ⟨h5, h6⟩ := bif3_some h4
        exact .inr (.inl ⟨h1, h3, h5, h6⟩)
      · obtain ⟨h5, h6⟩ := bif3_some h4
        simp only [Bool.and_eq_true] at h5
        exact .inr (.inr ⟨h1, h3, h5.1, h5.2, h6⟩)
theorem advance (hC : CtxOk P C) (hfx : ∀ t v, (t, v) ∈ fx → t ∈ C.fix) (G : Reg C rid ops) : ∀ (rest : List Nat) {V : List Nat} {av : Act} {col : Col} {σ : List Slot}, Sim P C B rid ops fx V D ar av w col σ → evalDraw C rid ops.toList (allocs 0 ops.toList) rest V σ K = some res →
    ∃ rest' V' av' col' σ', Sim P C B rid ops fx V' D ar av' w col' σ' ∧ evalDraw C rid ops.toList (allocs 0 ops.toList) rest' V' σ' K = some res ∧ Adv C rid ops D rest'
  | [], V, av, col, σ, S, he => ⟨[], V, av, col, σ, S, he, trivial⟩
  | i :: rest, V, av, col, σ, S, he => by
    obtain ⟨hn, _⟩ | ⟨o, hi, hV, hdp, hok, h | ⟨h1, h2, h3, h4⟩ | h⟩ := evalDraw_cons he
    · exact ⟨i :: rest, V, av, col, σ, S, he, .inl hn⟩
    · obtain ⟨av', col', σ', S', hk⟩ := S.calm hC hfx G hi hV hdp h.1 h.2
      exact advance hC hfx G rest S' hk
    · by_cases hD : InD D i
      · obtain ⟨o', d, T', s', g1, g2, g3, _⟩ := okAllocs_spec hok i ((allocs_mem hi).2 h2) hV
        rw [nth_get, Array.getElem?_toList, hi] at g1
        injection g1 with g1
        subst g1
        obtain ⟨col', σ', S', hk⟩ := S.alloc hi hV hdp hD g3 h4
        exact advance hC hfx G rest S' hk
      · exact ⟨i :: rest, V, av, col, σ, S, he, .inr ⟨o, hi, h1, fun _ => hD⟩⟩
    · exact ⟨i :: rest, V, av, col, σ, S, he, .inr ⟨o, hi, h.1, fun e => by rw [h.2.1] at e; cases e⟩⟩
theorem sim_ok (hC : CtxOk P C) (hfx : ∀ t v, (t, v) ∈ fx → t ∈ C.fix) (G : Reg C rid ops) (hG : GoodF P B fx K res (fun a w => Q .normal a w)) : ∀ (fuel : Nat) {rest : List Nat} {V : List Nat} {D : Array Bool} {ar av : Act} {w : World} {col : Col} {σ : List Slot},
    Sim P C B rid ops fx V D ar av w col σ → evalDraw C rid ops.toList (allocs 0 ops.toList) rest V σ K = some res → undone D ops.size ≤ fuel → wpAny P .any ops Q fuel D ar w := by
  intro fuel
  have fin_ : ∀ {rest : List Nat} {V : List Nat} {D : Array Bool} {ar av : Act} {w : World} {col : Col} {σ : List Slot}, Sim P C B rid ops fx V D ar av w col σ → evalDraw C rid ops.toList (allocs 0 ops.toList) rest V σ K = some res → Adv C rid ops D rest → Region.ready .any ops D = [] → Q .normal ar w := by
    intro rest V D ar av w col σ S he ha hr
    have rd : ∀ i o, ops[i]? = some o → ¬ InD D i → (∀ e ∈ o.after.toList, Region.binds .any e = true → InD D e.on) → False := by
      intro i o hi hD h
      have : i ∈ Region.ready .any ops D := mem_ready.2 ⟨not_InD hD (S.lt hi), o, hi, fun e he hb => h e (Array.mem_toList_iff.2 he) hb⟩
      rw [hr] at this
      cases this
    have all : ∀ l, Ordered ops l → ∀ i ∈ l, InD D i := by
      intro l
      induction l with
      | nil => intro _ i h; simp at h
      | cons j l ih =>
        intro H i hm
        obtain ⟨⟨o, ho, hd⟩, H'⟩ := H
        rcases List.mem_cons.1 hm with e | hm
        · subst e
          by_cases hD : InD D i
          · exact hD
          · exact (rd i o ho hD (fun e he hb => ih H' _ (depsIn_iff.1 hd e he hb))).elim
        · exact ih H' i hm
    have hVD := all V S.ord
    cases rest with
    | nil =>
      obtain ⟨hb, hk⟩ := bif3_some he
      have ea : ar = av := by
        have e1 : ar.tmps = av.tmps := by
          apply Array.ext_getElem?
          intro t
          exact tmps_congr S.size (S.agree t (fun p hp hD => absurd (hVD p hp) hD))
        have e2 : ar.defers = av.defers := S.dfr.trans S.inv.dfr.symm
        cases ar; cases av
        simp only at e1 e2
        rw [e1, e2]
      rw [ea]
      exact hG σ av w ⟨⟨col, S.inv⟩, S.fixed⟩ hk
    | cons i rest =>
      obtain ⟨hn, x, y, rest', _, hx, _⟩ | ⟨o, hi, hV, hdp, hok, hcase⟩ := evalDraw_cons he
      · obtain ⟨o, g1, g2, g3, _, _, g4, _⟩ := drawW_some hx
        refine (rd x o g1 (fun hD => ?_) (fun e he hb => hVD _ (depsIn_iff.1 g3 e he hb))).elim
        rcases S.sub x hD with h | h
        · exact g2 h
        · have := (allocs_mem g1).1 h
          rw [g4] at this; cases this
      have hi' := hi
      obtain hn | ⟨o', hi2, hnc, hna⟩ := ha
      · rw [hn] at hi; cases hi
      rw [hi] at hi2
      injection hi2 with hi2
      subst hi2
      refine (rd i o hi (fun hD => ?_) (fun e he hb => hVD _ (depsIn_iff.1 hdp e he hb))).elim
      rcases S.sub i hD with h | h
      · exact hV h
      · exact hna ((allocs_mem hi).1 h) hD
  induction fuel with
  | zero =>
    intro rest V D ar av w col σ S he hu
    obtain ⟨rest', V', av', col', σ', S', he', ha⟩ := advance hC hfx G rest S he
    have hr : Region.ready .any ops D = [] := by
      rw [List.eq_nil_iff_forall_not_mem]
      intro i hi
      obtain ⟨h1, o, h2, _⟩ := mem_ready.1 hi
      have := undone_zero (D := D) ops.size (by omega) i (Array.getElem?_eq_some_iff.1 h2).1
      rw [h1] at this; cases this
    exact ⟨hr, fin_ S' he' ha hr⟩
  | succ fuel ih =>
    intro rest V D ar av w col σ S he hu
    obtain ⟨rest, V, av, col, σ, S, he, ha⟩ := advance hC hfx G rest S he
    refine ⟨fun hr => fin_ S he ha hr, fun i hr => ?_⟩
    obtain ⟨h1, o, hi, hdeps⟩ := mem_ready.1 hr
    have hlt := (Array.getElem?_eq_some_iff.1 hi).1
    have hu' : undone (D.setIfInBounds i true) ops.size ≤ fuel := by
      have := undone_set h1 ops.size hlt
      omega
    have hdeps' : ∀ e ∈ o.after.toList, Region.binds .any e = true → InD D e.on := fun e he hb => hdeps e (Array.mem_toList_iff.1 he) hb
    have hnD : ¬ InD D i := InD_of h1
    by_cases hV : i ∈ V
    · exact S.real G hi hr hV (fun ar' S' => ih S' he hu')
    · cases rest with
      | nil =>
        obtain ⟨hb, _⟩ := bif3_some he
        exact absurd (allBelow_spec hb i (by simpa using hlt)) hV
      | cons j rest' =>
        have he0 := he
        obtain ⟨hn, x, y, rest2, _, hx, hy⟩ | ⟨oj, hj, hjV, hdp, hok, hcase⟩ := evalDraw_cons he
        · obtain ⟨ox, x1, x2, x3, x4, x5, x6, x7, x8, x9⟩ := drawW_some hx
          obtain ⟨oy, y1, y2, y3, y4, y5, y6, y7, y8, y9⟩ := drawW_some hy
          cases hal : isAlloc o.op
          · rcases waitTwo_spec x7 i o (by rw [Array.getElem?_toList]; exact hi) with h | h | h | h | h
            · exact absurd (by simpa using h) hV
            · rw [hal] at h; cases h
            · have hix : i = x := by simpa using h
              subst hix
              rw [hi] at x1
              injection x1 with x1
              subst x1
              obtain ⟨col', S⟩ := S.pulled (C.hint rid i) o.op
              exact S.both hC hfx G hi hr hV x3 x6 x8 x9 (fun ar' av' w' col' σ' S' hk => ih S' (drawW_draw hk) hu')
            · have hiy : i = y := by simpa using h
              subst hiy
              rw [hi] at y1
              injection y1 with y1
              subst y1
              obtain ⟨col', S⟩ := S.pulled (C.hint rid i) o.op
              exact S.both hC hfx G hi hr hV y3 y6 y8 y9 (fun ar' av' w' col' σ' S' hk => ih S' (drawW_draw hk) hu')
            · have : depsIn (V ++ allocs 0 ops.toList) o.after.toList = true := depsIn_iff.2 (fun e he hb => by
                rcases S.sub _ (hdeps' e he hb) with h | h
                · exact List.mem_append_left _ h
                · exact List.mem_append_right _ h)
              rw [this] at h; cases h
          · obtain ⟨o', d, T, s, g1, g2, g3, g4, g5, g6, g7, g8, g9⟩ := okAllocs_spec x4 i ((allocs_mem hi).2 hal) hV
            rw [nth_get, Array.getElem?_toList, hi] at g1
            injection g1 with g1
            subst g1
            exact S.ahead hC hfx G hi hr hV g4 g2 g3 g8 g9 g5 g6 g7 (fun ar' av' w' col' S' => ih S' he0 hu')
        obtain hn | ⟨oj', hj2, hnc, hna⟩ := ha
        · rw [hn] at hj; cases hj
        rw [hj] at hj2
        injection hj2 with hj2
        subst hj2
        cases hal : isAlloc o.op
        · -- the evaluator's next one
          rcases hcase with ⟨h, _⟩ | ⟨_, hja, hw, hs⟩ | ⟨_, hja, hw, hld, hs⟩
          · rw [h] at hnc; cases hnc
          · exfalso
            have hjD := hna hja
            rcases waitAll_spec hw i o (by rw [Array.getElem?_toList]; exact hi) with h | h | h | h
            · exact hV (by simpa using h)
            · rw [hal] at h; cases h
            · cases h
            · have : depsIn (V ++ delN j (allocs 0 ops.toList)) o.after.toList = true := depsIn_iff.2 (fun e he hb => by
                rcases S.sub _ (hdeps' e he hb) with h | h
                · exact List.mem_append_left _ h
                · exact List.mem_append_right _ (mem_delN.2 ⟨h, fun e' => hjD (e' ▸ hdeps' e he hb)⟩))
              rw [this] at h; cases h
          · have hij : j = i := by
              rcases waitAll_spec hw i o (by rw [Array.getElem?_toList]; exact hi) with h | h | h | h
              · exact absurd (by simpa using h) hV
              · rw [hal] at h; cases h
              · simpa using h
              · have : depsIn (V ++ allocs 0 ops.toList) o.after.toList = true := depsIn_iff.2 (fun e he hb => by
                  rcases S.sub _ (hdeps' e he hb) with h | h
                  · exact List.mem_append_left _ h
                  · exact List.mem_append_right _ h)
                rw [this] at h; cases h
            subst hij
            rw [hi] at hj
            injection hj with hj
            subst hj
            obtain ⟨col', S⟩ := S.pulled (C.hint rid j) o.op
            exact S.both hC hfx G hi hr hV hdp hja hld hs (fun ar' av' w' col' σ' S' hk => ih S' hk hu')
        · obtain ⟨o', d, T, s, g1, g2, g3, g4, g5, g6, g7, g8, g9⟩ := okAllocs_spec hok i ((allocs_mem hi).2 hal) hV
          rw [nth_get, Array.getElem?_toList, hi] at g1
          injection g1 with g1
          subst g1
          exact S.ahead hC hfx G hi hr hV g4 g2 g3 g8 g9 g5 g6 g7 (fun ar' av' w' col' S' => ih S' he0 hu')
theorem evalRegion_ok (hC : CtxOk P C) (hfx : ∀ t v, (t, v) ∈ fx → t ∈ C.fix) {id : Nat} {a : Act} (hG : GoodF P B fx K res (fun a w => Q .normal a w)) (hI : InvF P B fx σ a w) (he : evalRegion C id ops.toList σ K = some res) : (Code.region id ops true).wp P Q a w := by
  unfold evalRegion at he
  obtain ⟨hb, he⟩ := bif3_some he
  simp only [Bool.and_eq_true] at hb
  have G : Reg C id ops := by
    refine ⟨fun p op hp hc i o hi => ?_, fun i o hi cs b => ?_⟩
    · have := sepAll_spec hb.2 p op (by rw [Array.getElem?_toList]; exact hp) (by rw [Nat.zero_add]; exact hc) i o (by rw [Array.getElem?_toList]; exact hi)
      rw [Nat.zero_add] at this
      exact this
    · exact noSelect_spec hb.1 o (Array.mem_toList_iff.2 (Array.mem_of_getElem? hi)) cs b
  refine wp_region_any hC.mix ?_
  obtain ⟨⟨col, I⟩, hf⟩ := hI
  have hD : ∀ i, ¬ InD (Array.replicate ops.size false) i := by
    intro i h
    unfold InD at h
    by_cases hi : i < ops.size
    · simp [hi] at h
    · rw [Array.getD_eq_getD_getElem?, Array.getElem?_eq_none (by simp; omega)] at h; cases h
  have hu : ∀ n, undone (Array.replicate ops.size false) n ≤ n := by
    intro n
    induction n with
    | zero => exact Nat.le_refl _
    | succ n ih => simp only [undone]; split <;> omega
  exact sim_ok hC hfx G hG ops.size (V := []) (av := a) (col := col) (σ := σ) ⟨I.grow ⟨Nat.le_refl _, fun _ _ => rfl, fun _ _ => rfl, ⟨rfl, rfl, rfl⟩⟩, hf, rfl, I.dfr, by simp, fun i o h => absurd h (hD i), fun i h => absurd h (hD i), trivial, fun _ _ => rfl, fun p hp => by simp at hp, fun k h => absurd h (hD k), fun k k' h => absurd h (hD k)⟩ he (hu _)
end
end Go.Ev

noncomputable section
namespace Go.Ev
variable {P : Program}
theorem IsVal.same {s s' : S} (e : sameS s s' = true) {v : Value} {cs : List Value} (h : IsVal s v cs) : IsVal s' v cs := by
  cases s <;> cases s' <;> first | (simp [sameS] at e; done) | exact h | exact absurd h id
theorem gs_deads : ∀ (σ : List Slot) (t : Nat), gs (deads σ) t = .dead
  | [], _ => rfl
  | _ :: l, 0 => rfl
  | _ :: l, t + 1 => gs_deads l t
theorem length_deads : ∀ σ : List Slot, (deads σ).length = σ.length
  | [] => rfl
  | _ :: l => by simp [deads, length_deads l]
structure Norm (P : Program) (B : Base) (col : Col) (σ acc : List Slot) (dn kp : List Nat) (a : Act) (w : World) : Prop where
  inv : InvC P B col acc a w
  len : acc.length = σ.length
  left : ∀ t, t ∉ dn → gs acc t = .dead ∧ RootOk P w col t (Act.V a t) (gs σ t)
  kept : ∀ t, t ∈ kp → gs acc t = gs σ t ∧ t ∈ dn
theorem Norm.step {B : Base} {col col' : Col} {σ acc : List Slot} {dn kp kp' : List Nat} {a : Act} {w : World} (N : Norm P B col σ acc dn kp a w) {t : Nat} {y : Slot} (ht : t ∉ dn) (hq : ∀ b, b < w.heap.size → Quiet (col b) → col' b = col b)
    (hroots : ∀ u, u ≠ t → ∀ s, RootOk P w col u (Act.V a u) s → RootOk P w col' u (Act.V a u) s) (hy : SlotOk P w col' (ps acc t y) (Act.V a) t y) (hk : kp' = kp ∨ (kp' = t :: kp ∧ (y = gs σ t))) : Norm P B col' σ (ps acc t y) (t :: dn) kp' a w := by
  have hd := (N.left t ht).1
  refine ⟨N.inv.chg (length_ps _ _ _) hq (fun u => ?_), (length_ps _ _ _).trans N.len, fun u hu => ?_, fun u hu => ?_⟩
  · by_cases hu : u = t
    · subst hu
      by_cases hl : u < acc.length
      · rw [gs_ps_same _ _ _ hl]; exact hy
      · rw [gs_out _ _ (by rw [length_ps]; omega)]; trivial
    · rw [gs_ps_ne _ _ _ _ hu]
      have h := N.inv.ok u
      have hne : ∀ r, (gs acc r).isRoot = true → r ≠ t := fun r hr e => by rw [e, hd] at hr; cases hr
      cases hs : gs acc u with
      | dead => trivial
      | undef => rw [hs] at h; exact h
      | val s m x => rw [hs] at h; exact hroots u hu (.val s m x) h
      | hol s m x p => rw [hs] at h; exact hroots u hu (.hol s m x p) h
      | tup cs => rw [hs] at h; exact hroots u hu (.tup cs) h
      | al r p => rw [hs] at h; exact ⟨h.1, AlOk.ctx h.2 (gs_ps_ne _ _ _ _ (hne r (AlOk.isRoot h.2))) rfl⟩
      | pl r p => rw [hs] at h; exact ⟨h.1, PlOk.ctx h.2 (gs_ps_ne _ _ _ _ (hne r (PlOk.isRoot h.2))) rfl⟩
  · have hut : u ≠ t := fun e => hu (by simp [e])
    have hud : u ∉ dn := fun e => hu (by simp [e])
    rw [gs_ps_ne _ _ _ _ hut]
    exact ⟨(N.left u hud).1, hroots u hut _ (N.left u hud).2⟩
  · rcases hk with rfl | ⟨rfl, rfl⟩
    · have := N.kept u hu
      have hut : u ≠ t := fun e => ht (by rw [← e]; exact this.2)
      rw [gs_ps_ne _ _ _ _ hut]
      exact ⟨this.1, by simp [this.2]⟩
    · rcases List.mem_cons.1 hu with rfl | hu
      · refine ⟨?_, by simp⟩
        by_cases hl : u < acc.length
        · exact gs_ps_same _ _ _ hl
        · rw [gs_out _ _ (by rw [length_ps]; omega), gs_out σ _ (by rw [← N.len]; omega)]
      · have := N.kept u hu
        have hut : u ≠ t := fun e => ht (by rw [← e]; exact this.2)
        rw [gs_ps_ne _ _ _ _ hut]
        exact ⟨this.1, by simp [this.2]⟩
theorem memN_false {n : Nat} {l : List Nat} (h : memN n l = false) : n ∉ l := fun e => by rw [memN_iff.2 e] at h; cases h
theorem normK_ok {R : Type} {B : Base} {K : List Slot → Option R} {res : R} {a : Act} {w : World} {σ : List Slot} (hσ : ∃ col, InvC P B col σ a w) : ∀ (hd : List (Nat × Option (S × M))) (dn kp : List Nat) (acc : List Slot) (col : Col),
    Norm P B col σ acc dn kp a w → normK σ hd dn kp acc K = some res → ∃ σ', Inv P B σ' a w ∧ K σ' = some res
  | [], dn, kp, acc, col, N, h => ⟨acc, ⟨col, N.inv⟩, h⟩
  | (t, none) :: l, dn, kp, acc, col, N, h => by
    simp only [normK] at h
    obtain ⟨col0, I0⟩ := hσ
    have hal : ∀ {r : Nat} {p : List Nat} {v : Value}, memN r kp = true → AlOk w σ (Act.V a) r p v → t ≠ r → ∀ y, AlOk w (ps acc t y) (Act.V a) r p v := fun hm hk hne y =>
      AlOk.ctx hk (by rw [gs_ps_ne _ _ _ _ (fun e => hne e.symm)]; exact (N.kept _ (memN_iff.1 hm)).1) rfl
    have hpl : ∀ {r : Nat} {p : List Nat} {v : Value}, memN r kp = true → PlOk w σ (Act.V a) r p v → t ≠ r → ∀ y, PlOk w (ps acc t y) (Act.V a) r p v := fun hm hk hne y =>
      PlOk.ctx hk (by rw [gs_ps_ne _ _ _ _ (fun e => hne e.symm)]; exact (N.kept _ (memN_iff.1 hm)).1) rfl
    have hk0 := I0.ok t
    split at h
    · rename_i r p hs
      obtain ⟨hm, h⟩ := bif3_some h
      cases hdn : memN t dn
      · rw [hdn] at h
        rw [hs] at hk0
        exact normK_ok ⟨col0, I0⟩ l _ _ _ col (N.step (y := .al r p) (memN_false hdn) (fun _ _ _ => rfl) (fun _ _ _ h => h) ⟨hk0.1, hal hm hk0.2 hk0.1.symm _⟩ (.inl rfl)) h
      · rw [hdn] at h; cases h
    · rename_i r p hs
      obtain ⟨hm, h⟩ := bif3_some h
      cases hdn : memN t dn
      · rw [hdn] at h
        rw [hs] at hk0
        exact normK_ok ⟨col0, I0⟩ l _ _ _ col (N.step (y := .pl r p) (memN_false hdn) (fun _ _ _ => rfl) (fun _ _ _ h => h) ⟨hk0.1, hpl hm hk0.2 hk0.1.symm _⟩ (.inl rfl)) h
      · rw [hdn] at h; cases h
    · rename_i hna hnp
      cases hdn : memN t dn
      · rw [hdn] at h
        have hl := (N.left t (memN_false hdn)).2
        refine normK_ok ⟨col0, I0⟩ l _ _ _ col (N.step (y := gs σ t) (memN_false hdn) (fun _ _ _ => rfl) (fun _ _ _ h => h) ?_ (.inr ⟨rfl, rfl⟩)) h
        cases hs : gs σ t with
        | al r p => exact absurd hs (hna r p)
        | pl r p => exact absurd hs (hnp r p)
        | val s m x => rw [hs] at hl; exact hl
        | hol s m x p => rw [hs] at hl; exact hl
        | tup cs => rw [hs] at hl; exact hl
        | dead => trivial
        | undef => rw [hs] at hl; exact hl
      · rw [hdn] at h; cases h
  | (t, some (s', m')) :: l, dn, kp, acc, col, N, h => by
    simp only [normK] at h
    split at h
    · rename_i s m x hs
      obtain ⟨hle, h⟩ := bif3_some h
      cases hdn : memN t dn
      · rw [hdn] at h
        simp only [bif3] at h
        obtain ⟨y, h, hss, hco⟩ := coer_ok _ _ h
        have hl := (N.left t (memN_false hdn)).2
        rw [hs] at hl
        obtain ⟨cs, h1, h2⟩ := hl
        have h3 := h1.less (by simp) hle
        refine normK_ok hσ l _ _ _ (reCol col (lessF s m' [t]) [t]) (N.step (y := .val s' m' y) (memN_false hdn) (fun b _ hq => reCol_quiet _ _ (by simp) hq) (fun u hu s h => h.apart hu [] _) ⟨cs, hco h3, IsVal.same hss h2⟩ (.inl rfl)) h
      · rw [hdn] at h; cases h
    · cases h
def toExit : Ex → Exit
  | .normal => .normal
  | .exit id => .exit id
  | .ret => .ret
section
variable {C : Ctx} {B : Base} {R : Type} {res : R}
def GoodX (P : Program) (B : Base) (fx : List (Nat × Value)) (K : Ex → List Slot → Option R) (res : R) (Q : Exit → Act → World → Prop) : Prop := ∀ e σ a w, InvF P B fx σ a w → K e σ = some res → Q (toExit e) a w
theorem InvF.norm {fx : List (Nat × Value)} {σ : List Slot} {a : Act} {w : World} (hI : InvF P B fx σ a w) {hd : List (Nat × Option (S × M))} {K : List Slot → Option R} (h : normK σ hd [] [] (deads σ) K = some res) : ∃ σ', InvF P B fx σ' a w ∧ K σ' = some res := by
  obtain ⟨⟨col, I⟩, hf⟩ := hI
  obtain ⟨σ', h1, h2⟩ := normK_ok ⟨col, I⟩ hd [] [] (deads σ) col ⟨I.chg (length_deads σ) (fun _ _ _ => rfl) (fun t => by rw [gs_deads]; trivial), length_deads σ, fun t _ => ⟨gs_deads σ t, by
    have := I.ok t
    cases hs : gs σ t <;> rw [hs] at this <;> first | exact this | trivial⟩, fun t h => (by cases h)⟩ h
  exact ⟨σ', ⟨h1, hf⟩, h2⟩
theorem evalCode_ok (hC : CtxOk P C) {fx : List (Nat × Value)} (hfx : ∀ t v, (t, v) ∈ fx → t ∈ C.fix) (fuel : Nat) : ∀ (c : Code) {Q : Exit → Act → World → Prop} {K : Ex → List Slot → Option R} {σ : List Slot} {a : Act} {w : World},
    GoodX P B fx K res Q → InvF P B fx σ a w → evalCode C fuel c σ K = some res → c.wp P Q a w := by
  intro c
  induction c with
  | skip => intro Q K σ a w hG hI he; exact wp_skip (hG .normal σ a w hI he)
  | region id ops draw =>
    intro Q K σ a w hG hI he
    cases draw with
    | true =>
      simp only [evalCode] at he
      exact evalRegion_ok hC hfx (fun σ a w h1 h2 => hG .normal σ a w h1 h2) hI he
    | false =>
      simp only [evalCode] at he
      refine wp_region ?_
      have := evalOps_ok hC hfx (ops := ops) (fun σ a w h1 h2 => hG .normal σ a w h1 h2) ops.toList 0 (by simp) σ a w hI he
      rw [List.range_eq_range']
      simpa using this
  | seq x y ihx ihy =>
    intro Q K σ a w hG hI he
    simp only [evalCode] at he
    refine wp_seq (ihx ?_ hI he)
    intro e σ' a' w' hI' hk
    cases e with
    | normal =>
      cases hj : C.jn (rid y) with
      | none => rw [hj] at hk; exact ihy hG hI' hk
      | some hd =>
        rw [hj] at hk
        obtain ⟨σ0, h1, h2⟩ := hI'.norm (show normK σ' hd [] [] (deads σ') (fun σ => loopN hd (fun σ _ => evalCode C fuel y σ K) fuel σ K) = some res from hk)
        cases fuel with
        | zero => simp [loopN] at h2
        | succ n => exact ihy hG h1 h2
    | exit i => exact hG (.exit i) σ' a' w' hI' hk
    | ret => exact hG .ret σ' a' w' hI' hk
  | cond c x y ihx ihy =>
    intro Q K σ a w hG hI he
    simp only [evalCode] at he
    obtain ⟨col, I⟩ := hI.1
    split at he
    · rename_i m t hc
      have hv := I.bool (I.rdo none c) hc
      refine wp_cond hv ?_
      split at he
      · rename_i ht
        have ht : t = true := ht
        subst ht
        exact ihx hG hI he
      · rename_i ht
        have ht : t = false := bool_false_of ht
        subst ht
        exact ihy hG hI he
    · cases he
  | block id c ih =>
    intro Q K σ a w hG hI he
    simp only [evalCode] at he
    refine wp_block (ih ?_ hI he)
    intro e σ' a' w' hI' hk
    cases e with
    | normal => exact hG .normal σ' a' w' hI' hk
    | ret => exact hG .ret σ' a' w' hI' hk
    | exit i =>
      show if i = id then Q .normal a' w' else Q (.exit i) a' w'
      have hk : bif3 (i == id) (K .normal σ') (K (.exit i) σ') = some res := hk
      rcases bif3_or hk with ⟨hb, hk⟩ | ⟨hb, hk⟩
      · rw [if_pos (by simpa using hb)]; exact hG .normal σ' a' w' hI' hk
      · rw [if_neg (by simpa using hb)]; exact hG (.exit i) σ' a' w' hI' hk
  | loop c ih =>
    intro Q K σ a w hG hI he
    simp only [evalCode] at he
    obtain ⟨σ0, hI0, he⟩ := hI.norm he
    refine wp_loop_ghost (fun n a w => ∃ σ, InvF P B fx σ a w ∧ loopN (C.head (rid c)) (evalCode C fuel c) n σ K = some res) fuel ⟨σ0, hI0, he⟩ ?_
    rintro n a w ⟨σ, hI, he⟩
    cases n with
    | zero => simp [loopN] at he
    | succ n =>
      simp only [loopN] at he
      refine ih ?_ hI he
      intro e σ' a' w' hI' hk
      cases e with
      | normal =>
        obtain ⟨σ2, h1, h2⟩ := hI'.norm (show normK σ' (C.head (rid c)) [] [] (deads σ') (fun σ => loopN (C.head (rid c)) (evalCode C fuel c) n σ K) = some res from hk)
        exact ⟨n, by omega, σ2, h1, h2⟩
      | exit i => exact hG (.exit i) σ' a' w' hI' hk
      | ret => exact hG .ret σ' a' w' hI' hk
  | exit id => intro Q K σ a w hG hI he; exact wp_exit (hG (.exit id) σ a w hI he)
  | ret => intro Q K σ a w hG hI he; exact wp_ret (hG .ret σ a w hI he)
  | _ => intros; rename_i he; simp [evalCode] at he
end
end Go.Ev

noncomputable section
namespace Go.Ev
variable {P : Program}
theorem packRs_ok {R : Type} {B : Base} {a : Act} {w : World} {σ : List Slot} {d : Nat} (hd : (gs σ d).isRoot = false) {res : R} : ∀ (n : Nat) (r : S) (m : M) (cs : List Comp) (vs : List Value) (i : Nat) {col : Col} {K : El r → Option R},
    InvC P B col σ a w → TakenOk P w col d ((List.range' i cs.length).map fun j => [j]) cs vs → packRs (n + 1) r m cs K = some res →
    ∃ y col', InvC P B col' σ a w ∧ K y = some res ∧ (∀ j c, nth (splitC (n + 1) r m y) j = some (some c) → ∃ u ds, vs[j]? = some u ∧ Rep P c.s w col' none [d, i + j] c.m c.x ds ∧ IsVal c.s u ds) ∧
      (∀ k, k < i → ∀ {s : S} {m : M} {x : El s} {ds : List Value}, Rep P s w col none [d, k] m x ds → Rep P s w col' none [d, k] m x ds) ∧ vs.length = n + 1
  | 0, r, m, cs, vs, i, col, K, I, hT, h => by
    cases cs with
    | nil => simp [packRs] at h
    | cons c t =>
      cases t with
      | cons _ _ => simp [packRs] at h
      | nil =>
        cases vs with
        | nil => exact absurd hT id
        | cons v vs =>
          have h1 : bif3 (le m c.m) (coer c.s r c.x K) none = some res := h
          obtain ⟨hle, h2⟩ := bif3_some h1
          obtain ⟨y, hKy, hss, hco⟩ := coer_ok _ _ h2
          have hT : (∃ ds, Rep P c.s w col none (d :: [i]) c.m c.x ds ∧ IsVal c.s v ds) ∧ TakenOk P w col d [] [] vs := hT
          obtain ⟨⟨ds, h1, h2⟩, hT⟩ := hT
          have hvs : vs = [] := by cases vs; rfl; exact absurd hT id
          subst hvs
          have h3 := (hco h1).less (by simp) hle
          refine ⟨y, reCol col (lessF r m [d, i]) [d, i], I.recolX (.of hd) _, hKy, fun j c' hj => ?_, fun k hk s m x ds H => H.apart (Apart.tup (by omega)) (by simp) _, rfl⟩
          cases j with
          | zero =>
            have hj : some (some (⟨r, m, y⟩ : Comp)) = some (some c') := by cases r <;> exact hj
            simp at hj
            subst hj
            exact ⟨v, ds, rfl, h3, IsVal.same hss h2⟩
          | succ j =>
            have hj : (none : Option (Option Comp)) = some (some c') := by cases r <;> exact hj
            cases hj
  | n + 1, .pair ra rb, m, cs, vs, i, col, K, I, hT, h => by
    cases cs with
    | nil => simp [packRs] at h
    | cons c cs =>
      cases vs with
      | nil => exact absurd hT id
      | cons v vs =>
        simp only [packRs] at h
        obtain ⟨hle, h⟩ := bif3_some h
        obtain ⟨x, h, hss, hco⟩ := coer_ok _ _ h
        have hT : (∃ ds, Rep P c.s w col none (d :: [i]) c.m c.x ds ∧ IsVal c.s v ds) ∧ TakenOk P w col d ((List.range' (i + 1) cs.length).map fun j => [j]) cs vs := by
          simp only [List.length_cons, List.range'_succ, List.map_cons] at hT
          exact hT
        obtain ⟨⟨ds, h1, h2⟩, hT⟩ := hT
        have h3 := (hco h1).less (by simp) hle
        have I1 := I.recolX (p := [d, i]) (.of hd) (lessF ra (prA m) [d, i])
        have hT1 : TakenOk P w (reCol col (lessF ra (prA m) [d, i]) [d, i]) d ((List.range' (i + 1) cs.length).map fun j => [j]) cs vs := by
          have key : ∀ (cs : List Comp) (vs : List Value) (k : Nat), i < k → TakenOk P w col d ((List.range' k cs.length).map fun j => [j]) cs vs → TakenOk P w (reCol col (lessF ra (prA m) [d, i]) [d, i]) d ((List.range' k cs.length).map fun j => [j]) cs vs := by
            intro cs
            induction cs with
            | nil => intro vs k hk h; cases vs <;> exact h
            | cons c cs ih =>
              intro vs k hk h
              cases vs with
              | nil => exact absurd h id
              | cons v vs =>
                simp only [List.length_cons, List.range'_succ, List.map_cons] at h ⊢
                obtain ⟨⟨ds, g1, g2⟩, g3⟩ := h
                exact ⟨⟨ds, g1.apart (Apart.tup (by omega)) (by simp) _, g2⟩, ih vs (k + 1) (by omega) g3⟩
          exact key cs vs (i + 1) (by omega) hT
        obtain ⟨y, col', g1, g2, g3, g4, g5⟩ := packRs_ok hd n rb (prB m) cs vs (i + 1) I1 hT1 h
        refine ⟨(x, y), col', g1, g2, fun j c' hj => ?_, fun k hk s m' x' ds' H => g4 k (by omega) (H.apart (Apart.tup (by omega)) (by simp) _), by simp [g5]⟩
        cases j with
        | zero =>
          simp [splitC, nth] at hj
          subst hj
          exact ⟨v, ds, rfl, g4 i (by omega) h3, IsVal.same hss h2⟩
        | succ j =>
          obtain ⟨u, ds', k1, k2, k3⟩ := g3 j c' hj
          refine ⟨u, ds', k1, ?_, k3⟩
          rw [show i + (j + 1) = i + 1 + j by omega]; exact k2
  | n + 1, .unit, m, cs, vs, i, col, K, I, hT, h => by cases cs <;> simp [packRs] at h
  | n + 1, .int _, m, cs, vs, i, col, K, I, hT, h => by cases cs <;> simp [packRs] at h
  | n + 1, .bool, m, cs, vs, i, col, K, I, hT, h => by cases cs <;> simp [packRs] at h
  | n + 1, .str, m, cs, vs, i, col, K, I, hT, h => by cases cs <;> simp [packRs] at h
  | n + 1, .slice _ _, m, cs, vs, i, col, K, I, hT, h => by cases cs <;> simp [packRs] at h
  | n + 1, .agg _, m, cs, vs, i, col, K, I, hT, h => by cases cs <;> simp [packRs] at h
  | n + 1, .ptr _, m, cs, vs, i, col, K, I, hT, h => by cases cs <;> simp [packRs] at h
  | n + 1, .func _ _, m, cs, vs, i, col, K, I, hT, h => by cases cs <;> simp [packRs] at h
  | n + 1, .map _ _, m, cs, vs, i, col, K, I, hT, h => by cases cs <;> simp [packRs] at h
theorem ownAt_le : ∀ (s : S) (q : List Nat) {m m' : M}, le m m' = true → ownAt s q m = true → ownAt s q m' = true := by
  intro s
  induction s with
  | slice nl s ih => intro q m m' h ho; cases q with
    | nil => exact le_isOw h ho
    | cons i q => exact ih q (le_elemM h) ho
  | ptr s ih => intro q m m' h ho; cases q with
    | nil => exact le_isOw h ho
    | cons i q => exact ih q (le_elemM h) ho
  | map k v => intro q m m' h ho; cases q with
    | nil => exact le_isOw h ho
    | cons i q => simp [ownAt] at ho
  | agg s ih => intro q m m' h ho; cases q with
    | nil => simp [ownAt] at ho
    | cons i q => exact ih q (le_agM h) ho
  | pair a b iha ihb => intro q m m' h ho; cases q with
    | nil => simp [ownAt] at ho
    | cons i q => cases i with
      | zero => exact iha q (le_prA h) ho
      | succ i => exact ihb q (le_prB h) ho
  | _ => intro q m m' h ho; cases q <;> simp [ownAt] at ho
def loanIdx : Nat → List PM → List Nat
  | _, [] => []
  | j, .loan _ :: pm => j :: loanIdx (j + 1) pm
  | j, _ :: pm => loanIdx (j + 1) pm
def loanFix : Nat → List PM → List Value → List (Nat × Value)
  | j, .loan _ :: pm, v :: vs => (j, v) :: loanFix (j + 1) pm vs
  | j, _ :: pm, _ :: vs => loanFix (j + 1) pm vs
  | _, _, _ => []
theorem loanFix_idx : ∀ {pm : List PM} {j : Nat} {vs : List Value} {t : Nat} {v : Value}, (t, v) ∈ loanFix j pm vs → t ∈ loanIdx j pm ∧ ∃ i, t = j + i ∧ vs[i]? = some v := by
  intro pm
  induction pm with
  | nil => intro j vs t v h; cases vs <;> simp [loanFix] at h
  | cons p pm ih =>
    intro j vs t v h
    cases vs with
    | nil => cases p <;> simp [loanFix] at h
    | cons u vs =>
      have tl : (t, v) ∈ loanFix (j + 1) pm vs → t ∈ loanIdx (j + 1) pm ∧ ∃ i, t = j + i ∧ (u :: vs)[i]? = some v := fun h => by
        obtain ⟨h1, i, h2, h3⟩ := ih h
        exact ⟨h1, i + 1, by omega, by simpa using h3⟩
      cases p with
      | sh => exact tl h
      | move m => exact tl h
      | loan m =>
        have h : (t, v) ∈ (j, u) :: loanFix (j + 1) pm vs := h
        rcases List.mem_cons.1 h with h | h
        · injection h with h1 h2
          subst h1; subst h2
          exact ⟨by simp [loanIdx], 0, rfl, rfl⟩
        · obtain ⟨h1, h2⟩ := tl h
          exact ⟨by simp [loanIdx, h1], h2⟩
theorem loanOut_ok {R : Type} {B : Base} {a : Act} {w : World} {σ : List Slot} {col colz : Col} {res : R} (I : InvC P B col σ a w) : ∀ (pm : List PM) (j : Nat) (vs : List Value) (lo : S) {ls : List Comp} {K : El lo → Option R}, Fixed (loanFix j pm vs) a → vs.length = pm.length →
    (∀ i, j ≤ i → i < j + pm.length → ∀ b q, col b = some (i :: q) → colz b = some (i :: q)) → (∀ b, col b = some [] → colz b = some []) → loanOut σ j pm = some ls → packLo lo ls K = some res →
    ∃ l, K l = some res ∧ LoansOk P w colz (loansL j pm vs) lo l := by
  intro pm
  have one : ∀ {t : Nat} {s s' : S} {m m' : M} {x : El s} {y : El s'} {v : Value}, gs σ t = .val s m' x → le m m' = true → le m' m = true → Act.V a t = v → (sameS s s' = true ∧ ∀ {w : World} {col : Col} {h : Option (List Nat)} {p : List Nat} {m : M} {cs : List Value}, Rep P s w col h p m x cs → Rep P s' w col h p m y cs) →
      (∀ b q, col b = some (t :: q) → colz b = some (t :: q)) → (∀ b, col b = some [] → colz b = some []) → ∃ ds, Rep P s' w colz none [t] m y ds ∧ IsVal s' v ds := by
    intro t s s' m m' x y v hg h1 h2 hv hco hk hn
    have hok := I.ok t
    rw [hg] at hok
    obtain ⟨ds, g1, g2⟩ := hok
    rw [hv] at g2
    refine ⟨ds, hco.2 (g1.re _ ⟨h1, fun b q _ hc _ => hk b q hc, fun b q _ _ ho ho' => ?_, fun b _ hc => hn b hc, fun _ _ _ => rfl, Nat.le_refl _⟩), IsVal.same hco.1 g2⟩
    rw [ownAt_le _ _ h2 ho] at ho'
    cases ho'
  induction pm with
  | nil =>
    intro j vs lo ls K hf hl hk hn h h'
    simp only [loanOut, Option.some.injEq] at h
    subst h
    cases lo with
    | unit => exact ⟨(), h', by cases vs <;> trivial⟩
    | _ => simp [packLo] at h'
  | cons p pm ih =>
    intro j vs lo ls K hf hl hk hn h h'
    cases vs with
    | nil => simp at hl
    | cons v vs =>
      have hl' : vs.length = pm.length := by simpa using hl
      have hk' : ∀ i, j + 1 ≤ i → i < j + 1 + pm.length → ∀ b q, col b = some (i :: q) → colz b = some (i :: q) := fun i h1 h2 => hk i (by omega) (by simp only [List.length_cons]; omega)
      cases p with
      | sh => exact ih (j + 1) vs lo hf hl' hk' hn h h'
      | move m => exact ih (j + 1) vs lo hf hl' hk' hn h h'
      | loan m =>
        simp only [loanOut] at h
        split at h
        · rename_i s m' x l hg hl2
          obtain ⟨hb, h⟩ := bif3_some h
          simp only [Bool.and_eq_true] at hb
          simp only [Option.some.injEq] at h
          subst h
          have hv : Act.V a j = v := hf j v (by simp [loanFix])
          have hf' : Fixed (loanFix (j + 1) pm vs) a := fun t u h => hf t u (by simp [loanFix, h])
          have hkj := hk j (Nat.le_refl _) (by simp only [List.length_cons]; omega)
          cases l with
          | nil =>
            have hnil : loansL (j + 1) pm vs = [] := by
              have key : ∀ (pm : List PM) (j : Nat) (vs : List Value), loanOut σ j pm = some [] → loansL j pm vs = [] := by
                intro pm
                induction pm with
                | nil => intro j vs h; cases vs <;> rfl
                | cons p pm ih =>
                  intro j vs h
                  cases vs with
                  | nil => cases p <;> rfl
                  | cons v vs =>
                    cases p with
                    | sh => exact ih (j + 1) vs h
                    | move m => exact ih (j + 1) vs h
                    | loan m =>
                      simp only [loanOut] at h
                      split at h
                      · obtain ⟨_, h⟩ := bif3_some h
                        cases h
                      · cases h
              exact key pm (j + 1) vs hl2
            have h'' : coer s lo x K = some res := by cases lo <;> first | exact h' | (simp [packLo] at h'; done)
            obtain ⟨y, h3, hco⟩ := coer_ok _ _ h''
            refine ⟨y, h3, ?_⟩
            have hL := one hg hb.1 hb.2 hv hco hkj hn
            show LoansOk P w colz ((j, m, v) :: loansL (j + 1) pm vs) lo y
            rw [hnil]
            cases lo <;> exact hL
          | cons c l =>
            cases lo with
            | pair a' b' =>
              simp only [packLo] at h'
              obtain ⟨y, h3, hco⟩ := coer_ok _ _ h'
              obtain ⟨z, h4, h5⟩ := ih (j + 1) vs b' hf' hl' hk' hn hl2 h3
              refine ⟨(y, z), h4, ?_⟩
              have hL := one hg hb.1 hb.2 hv hco hkj hn
              show LoansOk P w colz ((j, m, v) :: loansL (j + 1) pm vs) (.pair a' b') (y, z)
              have hne : ∃ t ts, loansL (j + 1) pm vs = t :: ts := by
                have key : ∀ (pm : List PM) (j : Nat) (vs : List Value) (c : Comp) (l : List Comp), vs.length = pm.length → loanOut σ j pm = some (c :: l) → ∃ t ts, loansL j pm vs = t :: ts := by
                  intro pm
                  induction pm with
                  | nil => intro j vs c l _ h; simp [loanOut] at h
                  | cons p pm ih =>
                    intro j vs c l hl h
                    cases vs with
                    | nil => simp at hl
                    | cons v vs =>
                      cases p with
                      | sh => exact ih (j + 1) vs c l (by simpa using hl) h
                      | move m => exact ih (j + 1) vs c l (by simpa using hl) h
                      | loan m => exact ⟨_, _, rfl⟩
                exact key pm (j + 1) vs c l hl' hl2
              obtain ⟨t, ts, e⟩ := hne
              rw [e] at h5 ⊢
              exact ⟨hL, h5⟩
            | _ => simp [packLo] at h'
        · cases h
end Go.Ev

noncomputable section
namespace Go.Ev
variable {P : Program}
theorem takeAll_alive {fz : Bool} : ∀ {sls : List Slot} {σ : List Slot} {r : List Comp × List Slot}, takeAll σ fz sls = some r → ∀ sl ∈ sls, sl ≠ .dead
  | [], _, _, _, sl, h => by simp at h
  | s :: sls, σ, r, h, sl, hm => by
    simp only [takeAll] at h
    split at h
    · rename_i c σ1 mr ht
      rcases List.mem_cons.1 hm with rfl | hm
      · rintro rfl; simp [take] at ht
      · split at h
        · rename_i cs σ2 h2; exact takeAll_alive h2 sl hm
        · cases h
    · cases h
def resV (tmps : Array Value) : ResultVar → _root_.Go.Sem Value
  | .tmp t => pure (tmps.getD t Go.undef)
  | .cell a t => do loadVar t (← asAddr (tmps.getD a Go.undef))
theorem run_resV {C : Ctx} (hC : CtxOk P C) {B : Base} {col : Col} {σ : List Slot} {a : Act} {w : World} (I : InvC P B col σ a w) : ∀ (rs : List ResultVar), (∀ sl ∈ resSls C σ rs, sl ≠ .dead) →
    ∃ vs, (rs.mapM (resV a.tmps)).run P w = .ok vs w ∧ SlotsOk P w col σ a (resSls C σ rs) vs
  | [], _ => ⟨[], rfl, trivial⟩
  | r :: rs, h => by
    obtain ⟨vs, h1, h2⟩ := run_resV hC I rs (fun sl hs => h sl (List.mem_cons_of_mem _ hs))
    have hd : resSl C σ r ≠ .dead := h _ (List.mem_cons_self ..)
    have one : ∃ v, (resV a.tmps r).run P w = .ok v w ∧ OpdOk P w col σ a v (resSl C σ r) := by
      cases r with
      | tmp t => exact ⟨Act.V a t, rfl, I.rdt t⟩
      | cell t T =>
        simp only [resSl] at hd ⊢
        split at hd
        · rename_i s m x hg
          split at hd
          · rename_i s' hT
            rcases bif3_pick (b := sameS s s') (x := Slot.al t [0]) (y := .dead) with ⟨hb, e⟩ | ⟨hb, e⟩
            · have hF : Fits P s T := (hC.ty T s' hT).same (by
                have : ∀ a b : S, sameS a b = true → sameS b a = true := by
                  intro a
                  induction a with
                  | int k => intro b h; cases b <;> simp_all [sameS]
                  | slice nl s ih => intro b h; cases b <;> first | (simp [sameS] at h; done) | exact ih _ h
                  | agg s ih => intro b h; cases b <;> first | (simp [sameS] at h; done) | exact ih _ h
                  | ptr s ih => intro b h; cases b <;> first | (simp [sameS] at h; done) | exact ih _ h
                  | pair a b iha ihb => intro c h; cases c <;> first | (simp [sameS] at h; done) | (simp only [sameS, Bool.and_eq_true] at h ⊢; exact ⟨iha _ h.1, ihb _ h.2⟩)
                  | func a b iha ihb => intro c h; cases c <;> first | (simp [sameS] at h; done) | (simp only [sameS, Bool.and_eq_true] at h ⊢; exact ⟨iha _ h.1, ihb _ h.2⟩)
                  | map a b iha ihb => intro c h; cases c <;> first | (simp [sameS] at h; done) | (simp only [sameS, Bool.and_eq_true, decide_eq_true_eq] at h ⊢; exact ⟨h.1.symm, h.2.symm⟩)
                  | _ => intro b h; cases b <;> first | (simp [sameS] at h; done) | rfl
                exact this _ _ hb)
              have hk := I.ok t
              rw [hg] at hk
              obtain ⟨cs, k1, k2⟩ := hk
              obtain ⟨ad, ds, ev, es, hs, _, _, hat, hr⟩ := k1.ptr_val (by simp) k2
              obtain ⟨v, hrun, hv⟩ := run_loadVar hF (P := P) (w := w) hs hat hr.len
              refine ⟨v, ?_, ?_⟩
              · have ev' : a.tmps.getD t Go.undef = .pointer (some ad) := ev
                simp [resV, ev', asAddr, hrun]
              · rw [e]
                refine .inr ⟨⟨.ptr s, m, x⟩, none, [t], [0], _, .val hg, ⟨rfl, okP_nil _ _⟩, cs, ds, some ad, k2, ⟨rfl, ad, ds, es, hs, hr.len, hat, Nav_nil _ _ _ _⟩, ?_⟩
                rw [show subS (.ptr s) [0] = s from subS_nil _]; exact hv
            · exact absurd e hd
          · exact absurd rfl hd
        · exact absurd rfl hd
    obtain ⟨v, h3, h4⟩ := one
    exact ⟨v :: vs, by simp only [List.mapM_cons, Sem.run_bind, h3, Result.andThen_ok, h1, Sem.run_pure], h4, h2⟩
theorem run_results {C : Ctx} (hC : CtxOk P C) {B : Base} {col : Col} {σ : List Slot} {a : Act} {w : World} (I : InvC P B col σ a w) {fn : Func} (h : ∀ sl ∈ resSls C σ fn.results.toList, sl ≠ .dead) :
    ∃ vs : List Value, (results fn a.tmps).run P w = .ok (if h : vs.length = 1 then vs[0] else .tuple vs.toArray) w ∧ SlotsOk P w col σ a (resSls C σ fn.results.toList) vs := by
  obtain ⟨vs, h1, h2⟩ := run_resV hC I fn.results.toList h
  refine ⟨vs, ?_, h2⟩
  have e : (fn.results.mapM (resV a.tmps)).run P w = .ok vs.toArray w := by
    rw [Array.mapM_eq_mapM_toList, Sem.run_map, h1]; rfl
  have e2 : results fn a.tmps = (fn.results.mapM (resV a.tmps)) >>= fun vs => pure (if h : vs.size = 1 then vs[0] else .tuple vs) := by
    unfold results
    congr 1
  rw [e2, Sem.run_bind, e, Result.andThen_ok]
  first | done | rfl
theorem TakenOk.len {w : World} {col : Col} {d : Nat} : ∀ {qs : List (List Nat)} {cs : List Comp} {vs : List Value}, TakenOk P w col d qs cs vs → cs.length = vs.length
  | [], [], [], _ => rfl
  | q :: qs, c :: cs, v :: vs, h => by simp [TakenOk.len h.2]
  | [], [], _ :: _, h => absurd h id
  | [], _ :: _, _, h => absurd h id
  | _ :: _, [], _, h => absurd h id
  | _ :: _, _ :: _, [], h => absurd h id
theorem gs_pads : ∀ (n t : Nat), gs (pads n) t = .dead
  | 0, _ => rfl
  | n + 1, 0 => rfl
  | n + 1, t + 1 => gs_pads n t
theorem length_pads : ∀ n : Nat, (pads n).length = n
  | 0 => rfl
  | n + 1 => by simp [pads, length_pads n]
theorem length_params : ∀ cs : List Comp, (params cs).length = cs.length
  | [] => rfl
  | c :: cs => by simp [params, length_params cs]
theorem params_ok {w : World} {col : Col} (n : Nat) : ∀ {cs : List Comp} {vs : List Value} {j : Nat}, ArgsOk P w col j cs vs → ∀ t, (∃ s m x, gs (params cs ++ pads n) t = .val s m x ∧ ∃ ds v, vs[t]? = some v ∧ Rep P s w col none [j + t] m x ds ∧ IsVal s v ds) ∨ gs (params cs ++ pads n) t = .dead
  | [], [], j, _, t => .inr (gs_pads n t)
  | c :: cs, v :: vs, j, ⟨⟨ds, h1, h2⟩, h⟩, t => by
    cases t with
    | zero => exact .inl ⟨c.s, c.m, c.x, rfl, ds, v, rfl, h1, h2⟩
    | succ t =>
      rcases params_ok n h t with ⟨s, m, x, e, ds, v, g1, g2, g3⟩ | e
      · exact .inl ⟨s, m, x, e, ds, v, by simpa using g1, by rw [show j + (t + 1) = j + 1 + t by omega]; exact g2, g3⟩
      · exact .inr e
  | [], _ :: _, _, h, _ => absurd h id
  | _ :: _, [], _, h, _ => absurd h id
theorem PMsOk.len : ∀ {pm : List PM} {cs : List Comp}, PMsOk pm cs → pm.length = cs.length
  | [], [], _ => rfl
  | p :: pm, c :: cs, h => by simp [PMsOk.len h.2]
  | [], _ :: _, h => absurd h id
  | _ :: _, [], h => absurd h id
theorem splitC_one (r : S) (m : M) (y : El r) : nth (splitC (0 + 1) r m y) 0 = some (some ⟨r, m, y⟩) := by cases r <;> rfl
theorem unbox1_ok {B : Base} {a : Act} {w : World} {σ : List Slot} (j : Nat) (I : Inv P B σ a w) : Inv P B (unbox1 σ j) a w ∧ (unbox1 σ j).length = σ.length := by
  obtain ⟨col, I⟩ := I
  unfold unbox1
  split
  · rename_i r p hj
    split
    · rename_i s m x hg
      have hk := I.ok j
      rw [hj] at hk
      obtain ⟨hne, hal⟩ := hk
      have hl : r < σ.length := lt_of_gs hg (by simp)
      have hjl : j < σ.length := lt_of_gs hj (by simp)
      have hcp : Copy w ⟨s, m, x⟩ p (Act.V a r) (Act.V a j) := by
        rcases hal with ⟨cs0, e, hp, e2⟩ | ⟨c0, hh, pth, q, u, hr, hcp⟩
        · rw [hg] at e; cases e
        · obtain ⟨rfl, rfl, rfl, rfl, rfl⟩ := Roots.of (.inl ⟨hg, rfl⟩) hr
          exact hcp
      obtain ⟨cs, h1, h2⟩ := I.copy (.val hg) hcp
      rw [subHs_none] at h1
      have h1 : Rep P (subS s p) w col none (r :: p) (subM s p m) (getP s p x) cs := h1
      have hkr := I.ok r
      rw [hg] at hkr
      obtain ⟨cs', g1, g2⟩ := hkr
      split
      · have hd : gs (Ev.put σ r .dead) r = .dead := gs_put_dead
        have I1 := (I.dead r).recolX (FreeX.of (q := []) (by rw [hd]; rfl)) (moveF [j])
        have hrep : Rep P s w (reCol col (moveF [j]) [r]) none [j] m x cs' := g1.move (by simp)
        have hv : Act.V a j = Act.V a r := by
          obtain ⟨_, cs1, cs2, oa, k1, k2, k3⟩ := hcp
          obtain ⟨rfl, _⟩ := Nav_nil' k2
          rw [subS_nil] at k3
          exact k3.value k1
        exact ⟨⟨_, I1.replace (r := j) (y := .val s m x) (fun _ _ _ => rfl) (fun _ _ h => h) ⟨cs', hrep, by rw [hv]; exact g2⟩ (fun _ => rfl)⟩, by rw [length_put, length_put]⟩
      · rename_i hpne
        have hpn : p ≠ [] := fun e => hpne e
        have hgs : gs (Ev.put σ r (.hol s m x p)) r = .hol s m x p := by rw [gs_put_same hl]; rfl
        have I1 : InvC P B col (Ev.put σ r (.hol s m x p)) a w := I.replace (fun _ _ _ => rfl) (fun _ _ h => h) ⟨hpn, cs', g1.openH, g2⟩ (fun _ => rfl)
        have I2 := I1.recolX (p := r :: p) ⟨r, p, rfl, .inr ⟨s, m, x, p, hgs, rfl⟩⟩ (moveF [j])
        have hrep : Rep P (subS s p) w (reCol col (moveF [j]) (r :: p)) none [j] (subM s p m) (getP s p x) cs := h1.move (by simp)
        exact ⟨⟨_, I2.replace (r := j) (y := .val (subS s p) (subM s p m) (getP s p x)) (fun _ _ _ => rfl) (fun _ _ h => h) ⟨cs, hrep, h2⟩ (fun _ => rfl)⟩, by rw [length_put, length_put]⟩
    · exact ⟨⟨col, I⟩, rfl⟩
  · exact ⟨⟨col, I⟩, rfl⟩
theorem unbox_ok {B : Base} {a : Act} {w : World} : ∀ (l : List Nat) {σ : List Slot}, Inv P B σ a w → Inv P B (unbox l σ) a w
  | [], _, h => h
  | j :: l, _, h => unbox_ok l (unbox1_ok j h).1
theorem fn_contract {C : Ctx} (hC : CtxOk P C) {f : FuncId} {fn : Func} {c : Code} (hf : P.funcs[f]? = some fn) (hb : fn.body = some c) {σm : Sem} {fuel : Nat} (hfix : C.fix = loanIdx 0 σm.pm)
    (hev : ∀ (cs : List Comp), PMsOk σm.pm cs → ∀ (R : Type) (k : El σm.r → El σm.lo → Option R) (res : R), σm.f cs R k = some res → ∃ y l, k y l = some res ∧ evalFn C fuel fn σm.nr σm.r σm.mr σm.pm σm.lo cs = some (y, l)) : Contract P f σm := by
  intro w col cs vs hPM hA R k res hk
  obtain ⟨y, l, hk, he⟩ := hev cs hPM R k res hk
  refine ⟨y, l, hk, calls_of_wp hf hb ?_⟩
  have hlen := hA.len
  have hpl := hPM.len
  have hI : InvC P ⟨w, col⟩ col (params cs ++ pads (fn.ntmps - cs.length)) { tmps := vs.toArray ++ Array.replicate (fn.ntmps - vs.toArray.size) Go.undef, defers := [] } w := by
    refine ⟨by simp [length_params, length_pads, hlen], rfl, ⟨Nat.le_refl _, fun _ _ _ => rfl, fun _ _ _ => rfl, .refl _⟩, fun t => ?_⟩
    rcases params_ok (fn.ntmps - cs.length) hA t with ⟨s, m, x, e, ds, v, g1, g2, g3⟩ | e
    · rw [e]
      refine ⟨ds, by simpa using g2, ?_⟩
      have hl : t < vs.length := by
        rcases Nat.lt_or_ge t vs.length with h | h
        · exact h
        · rw [List.getElem?_eq_none h] at g1; cases g1
      have hv : Act.V { tmps := vs.toArray ++ Array.replicate (fn.ntmps - vs.toArray.size) Go.undef, defers := [] } t = v := by
        unfold Act.V
        rw [Array.getD_eq_getD_getElem?, Array.getElem?_append_left (by simpa using hl)]
        rw [List.getElem?_toArray, g1]; rfl
      rw [hv]; exact g3
    · rw [e]; trivial
  have hF : Fixed (loanFix 0 σm.pm vs) { tmps := vs.toArray ++ Array.replicate (fn.ntmps - vs.toArray.size) Go.undef, defers := [] } := by
    intro t v h
    obtain ⟨_, i, rfl, g1⟩ := loanFix_idx h
    have hl : i < vs.length := by
      rcases Nat.lt_or_ge i vs.length with h | h
      · exact h
      · rw [List.getElem?_eq_none h] at g1; cases g1
    unfold Act.V
    rw [Nat.zero_add, Array.getD_eq_getD_getElem?, Array.getElem?_append_left (by simpa using hl), List.getElem?_toArray, g1]; rfl
  have hbody : body fn = c := by unfold body; rw [hb]
  unfold evalFn at he
  rw [hbody] at he
  refine evalCode_ok (B := ⟨w, col⟩) hC (fx := loanFix 0 σm.pm vs) (fun t v h => by rw [hfix]; exact (loanFix_idx h).1) fuel c ?_ ⟨⟨col, hI⟩, hF⟩ he
  intro e σ0 a w' hI0 hk'
  have hI' : InvF P ⟨w, col⟩ (loanFix 0 σm.pm vs) (unbox C.fix σ0) a w' := ⟨unbox_ok C.fix hI0.1, hI0.2⟩
  generalize hσ : unbox C.fix σ0 = σ at hI'
  have fin_ : (match takeAll σ false (resSls C σ fn.results.toList) with
      | some (cs, σ) => match loanOut σ 0 σm.pm with
        | some ls => packRs σm.nr σm.r σm.mr cs fun y => packLo σm.lo ls fun l => some (y, l)
        | none => none
      | none => none) = some (y, l) → a.defers = [] ∧ ∃ v, (results fn a.tmps).run P w' = .ok v w' ∧ Post P σm w col vs y l (.returned v) w' := by
    intro h
    obtain ⟨⟨col1, I⟩, hfx⟩ := hI'
    refine ⟨I.dfr, ?_⟩
    split at h
    · rename_i cs2 σ2 ht
      obtain ⟨us, hrun, hsl⟩ := run_results hC I (takeAll_alive ht)
      refine ⟨_, hrun, ?_⟩
      split at h
      · rename_i ls hlo
        have hdd : gs σ (σ.length + vs.length) = .dead := gs_out _ _ (by omega)
        obtain ⟨col2, I2, hd2, hT2, _, _⟩ := takeAll_ok (d := σ.length + vs.length) _ ((List.range' 0 cs2.length).map fun j => [j]) _ I (Later.refl _ _ _) hdd hsl (by simp [takeAll_len ht]) ht
        have hroot : (gs σ2 (σ.length + vs.length)).isRoot = false := by rw [hd2]; rfl
        have post : ∀ (col3 : Col) (g : List Nat → Option (List Nat)) (y0 : El σm.r) (v : Value), InvC P ⟨w, col⟩ col3 σ2 a w' → packLo σm.lo ls (fun l => some (y0, l)) = some (y, l) →
            (y0 = y → RootOk P w' (reCol col3 g [σ.length + vs.length]) vs.length v (resSlot σm.nr σm.r σm.mr y)) → Post P σm w col vs y l (.returned v) w' := by
          intro col3 g y0 v I3 hpk hres
          obtain ⟨l1, hl1, hL⟩ := loanOut_ok (colz := reCol col3 g [σ.length + vs.length]) I3 σm.pm 0 vs σm.lo hfx (by omega) (fun i _ hi b q hc => by
            rw [reCol_ne _ _ _ (fun q' e => by rw [hc] at e; simp at e; omega)]; exact hc) (fun b hc => by rw [reCol_quiet _ _ (by simp) (.inr hc)]; exact hc) hlo hpk
          simp only [Option.some.injEq, Prod.mk.injEq] at hl1
          obtain ⟨e1, e2⟩ := hl1
          subst e2
          refine ⟨v, _, rfl, hres e1, hL, I3.frm.sz, I3.frm.mem, fun b hb hq => ?_, I3.frm.out⟩
          have := I3.frm.col b hb hq
          rw [reCol_quiet _ _ (by simp) (by rw [this]; exact hq)]
          exact this
        match hn : σm.nr with
        | 0 =>
          rw [hn] at h
          have key : ∀ (r : S) (m : M) (K : El r → Option (El σm.r × El σm.lo)), packRs 0 r m cs2 K = some (y, l) → ∃ y0, K y0 = some (y, l) := by
            intro r m K h
            cases r <;> cases cs2 <;> first | exact ⟨(), h⟩ | (simp [packRs] at h; done)
          obtain ⟨y0, h⟩ := key _ _ _ h
          exact post col2 (fun q => some q) y0 _ I2 h (fun _ => by rw [hn]; trivial)
        | 1 =>
          rw [hn] at h
          obtain ⟨y0, col3, I3, h, hres, _, hul⟩ := packRs_ok hroot 0 _ _ cs2 us 0 I2 hT2 h
          refine post col3 (fun q => match q with | _ :: q => some (vs.length :: q) | [] => some []) y0 _ I3 h (fun e => ?_)
          subst e
          rw [hn]
          obtain ⟨u, ds, k1, k2, k3⟩ := hres 0 ⟨σm.r, σm.mr, y0⟩ (splitC_one _ _ _)
          have hu : (if h : us.length = 1 then us[0] else .tuple us.toArray) = u := by
            rw [dif_pos hul]
            have : us[0]? = some us[0] := List.getElem?_eq_getElem (by omega)
            rw [this] at k1
            injection k1
          rw [hu]
          exact ⟨ds, Rep.recolUnder (p := [σ.length + vs.length]) (e := [0]) k2 (by simp) (fun q => rfl), k3⟩
        | k + 2 =>
          rw [hn] at h
          obtain ⟨y0, col3, I3, h, hres, _, hul⟩ := packRs_ok hroot (k + 1) _ _ cs2 us 0 I2 hT2 h
          refine post col3 (fun q => some (vs.length :: q)) y0 _ I3 h (fun e => ?_)
          subst e
          rw [hn]
          rw [dif_neg (by omega)]
          refine ⟨us.toArray, rfl, fun i c hi => ?_⟩
          obtain ⟨u, ds, k1, k2, k3⟩ := hres i c hi
          refine ⟨u, ds, by simpa using k1, Rep.recolUnder (p := [σ.length + vs.length]) (e := [i]) (by rw [Nat.zero_add] at k2; exact k2) (by simp) (fun q => rfl), k3⟩
      · cases h
    · cases h
  cases e with
  | exit i => cases hk'
  | normal => exact fin_ (by rw [← hσ]; exact hk')
  | ret => exact fin_ (by rw [← hσ]; exact hk')
end Go.Ev

noncomputable section
namespace Go.Ev
variable {P : Program}
def packCo {R : Type} : (ps : S) → List Comp → (El ps → Option R) → Option R
  | .pair a b, c :: cs, K => coer c.s a c.x fun y => packCo b cs fun z => K (y, z)
  | .unit, [], K => K ()
  | _, _, _ => none
def pmM : PM → M
  | .sh => .sh
  | .loan m => m
  | .move m => m
def unp : (ps : S) → List PM → El ps → List Comp
  | .pair a b, p :: pm, x => ⟨a, pmM p, x.1⟩ :: unp b pm x.2
  | _, _, _ => []
def mkSem (pm : List PM) (nr : Nat) (r : S) (mr : M) (lo : S) (ps : S) (F : El ps → Option (El r × El lo)) : Sem where
  pm := pm
  nr := nr
  r := r
  mr := mr
  lo := lo
  f := fun cs R k => packCo ps cs fun x => (F x).bind fun y => k y.1 y.2
theorem packCo_ok {R : Type} {w : World} {col : Col} : ∀ (ps : S) (pm : List PM) (cs : List Comp) (vs : List Value) (j : Nat) {K : El ps → Option R} {res : R}, PMsOk pm cs → ArgsOk P w col j cs vs → packCo ps cs K = some res →
    ∃ x, K x = some res ∧ PMsOk pm (unp ps pm x) ∧ ArgsOk P w col j (unp ps pm x) vs
  | .pair a b, pm, [], vs, j, K, res, hP, hA, h => by simp [packCo] at h
  | .pair a b, pm, c :: cs, vs, j, K, res, hP, hA, h => by
    simp only [packCo] at h
    obtain ⟨y, h, hss, hco⟩ := coer_ok _ _ h
    cases pm with
    | nil => exact absurd hP id
    | cons p pm =>
      cases vs with
      | nil => exact absurd hA id
      | cons v vs =>
        obtain ⟨z, h, h1, h2⟩ := packCo_ok b pm cs vs (j + 1) hP.2 hA.2 h
        obtain ⟨⟨ds, g1, g2⟩, _⟩ := hA
        have hm : c.m = pmM p := by
          have := hP.1
          cases p <;> exact this
        refine ⟨(y, z), h, ⟨by cases p <;> rfl, h1⟩, ⟨ds, ?_, IsVal.same hss g2⟩, h2⟩
        have := hco g1
        rw [hm] at this
        exact this
  | .unit, pm, [], vs, j, K, res, hP, hA, h => by
    refine ⟨(), h, ?_, ?_⟩
    · cases pm
      · trivial
      · exact absurd hP id
    · cases vs
      · trivial
      · exact absurd hA id
  | .unit, pm, _ :: _, vs, j, K, res, hP, hA, h => by simp [packCo] at h
  | .int _, pm, cs, vs, j, K, res, hP, hA, h => by cases cs <;> simp [packCo] at h
  | .bool, pm, cs, vs, j, K, res, hP, hA, h => by cases cs <;> simp [packCo] at h
  | .str, pm, cs, vs, j, K, res, hP, hA, h => by cases cs <;> simp [packCo] at h
  | .slice _ _, pm, cs, vs, j, K, res, hP, hA, h => by cases cs <;> simp [packCo] at h
  | .agg _, pm, cs, vs, j, K, res, hP, hA, h => by cases cs <;> simp [packCo] at h
  | .ptr _, pm, cs, vs, j, K, res, hP, hA, h => by cases cs <;> simp [packCo] at h
  | .func _ _, pm, cs, vs, j, K, res, hP, hA, h => by cases cs <;> simp [packCo] at h
  | .map _ _, pm, cs, vs, j, K, res, hP, hA, h => by cases cs <;> simp [packCo] at h
theorem fn_ok {C : Ctx} (hC : CtxOk P C) {f : FuncId} {fn : Func} {c : Code} (hf : P.funcs[f]? = some fn) (hb : fn.body = some c) {pm : List PM} {nr : Nat} {r : S} {mr : M} {lo ps : S} {k : Nat} {F : El ps → Option (El r × El lo)} (hfix : C.fix = loanIdx 0 pm)
    (he : ∀ x : El ps, evalFn C k fn nr r mr pm lo (unp ps pm x) = F x) : Contract P f (mkSem pm nr r mr lo ps F) := by
  intro w col cs vs hPM hA R K res hk
  obtain ⟨x, h, h1, h2⟩ := packCo_ok ps pm cs vs 0 hPM hA hk
  have hex : Contract P f ⟨pm, nr, r, mr, lo, fun cs R k' => (evalFn C k fn nr r mr pm lo cs).bind fun y => k' y.1 y.2⟩ := fn_contract hC hf hb (fuel := k) hfix (fun cs _ R k' res h => by
    simp only [Option.bind_eq_some_iff] at h
    obtain ⟨y, e, h⟩ := h
    exact ⟨y.1, y.2, h, e⟩)
  exact hex w col (unp ps pm x) vs h1 h2 R K res (by simp only [he x]; exact h)
def envOf : List (Nat × Sem) → Nat → List Sem
  | [], _ => []
  | (g, s) :: l, f => bif3 (Nat.beq g f) (s :: envOf l f) (envOf l f)
def EnvOk (P : Program) : List (Nat × Sem) → Prop
  | [] => True
  | (f, s) :: l => (Contract P f s ∧ CallOk P f) ∧ EnvOk P l
theorem EnvOk.get : ∀ {l : List (Nat × Sem)}, EnvOk P l → ∀ f σm, σm ∈ envOf l f → Contract P f σm ∧ CallOk P f
  | [], _, f, σm, h => by simp [envOf] at h
  | (g, s) :: l, H, f, σm, h => by
    simp only [envOf] at h
    cases hb : Nat.beq g f
    · rw [hb] at h; exact EnvOk.get H.2 f σm h
    · rw [hb] at h
      have hg : g = f := Nat.eq_of_beq_eq_true hb
      subst hg
      simp only [bif3, List.mem_cons] at h
      rcases h with h | h
      · subst h; exact H.1
      · exact EnvOk.get H.2 g σm h
def tyOf : List (Nat × S) → Nat → Option S
  | [], _ => none
  | (g, s) :: l, f => bif3 (Nat.beq g f) (some s) (tyOf l f)
def eqVal : Value → Value → Bool
  | .int k n, .int k' n' => (k == k') && (n == n')
  | .bool b, .bool b' => b == b'
  | .string b, .string b' => (b.size == 0) && (b'.size == 0)
  | .slice a n c, .slice a' n' c' => a.isNone && a'.isNone && (n == n') && (c == c')
  | .pointer a, .pointer a' => a.isNone && a'.isNone
  | .nilFunc, .nilFunc => true
  | .map a, .map a' => a.isNone && a'.isNone
  | _, _ => false
def eqVals : List Value → List Value → Bool
  | [], [] => true
  | x :: l, y :: l' => eqVal x y && eqVals l l'
  | _, _ => false
theorem empty_of_size {b : ByteArray} (h : b.size = 0) : b = ByteArray.empty := by
  cases b with
  | mk d =>
    have : d.size = 0 := h
    have : d = #[] := Array.eq_empty_of_size_eq_zero this
    subst this; rfl
theorem eqVal_eq {x y : Value} (h : eqVal x y = true) : x = y := by
  unfold eqVal at h
  split at h
  · simp only [Bool.and_eq_true, beq_iff_eq] at h; rw [h.1, h.2]
  · simp only [beq_iff_eq] at h; rw [h]
  · simp only [Bool.and_eq_true, beq_iff_eq] at h; rw [empty_of_size h.1, empty_of_size h.2]
  · simp only [Bool.and_eq_true, beq_iff_eq, Option.isNone_iff_eq_none] at h; rw [h.1.1.1, h.1.1.2, h.1.2, h.2]
  · simp only [Bool.and_eq_true, Option.isNone_iff_eq_none] at h; rw [h.1, h.2]
  · rfl
  · simp only [Bool.and_eq_true, Option.isNone_iff_eq_none] at h; rw [h.1, h.2]
  · cases h
theorem eqVals_eq : ∀ {l l' : List Value}, eqVals l l' = true → l = l'
  | [], [], _ => rfl
  | x :: l, y :: l', h => by
    simp only [eqVals, Bool.and_eq_true] at h
    rw [eqVal_eq h.1, eqVals_eq h.2]
  | [], _ :: _, h => by simp [eqVals] at h
  | _ :: _, [], h => by simp [eqVals] at h
def tinfoB (P : Program) (s : S) (T : TypeId) : Bool := match P.info? T with
  | some i => (i.size == size s) && Nat.ble i.bytes 128 && (match i.zero with | some z => eqVals z.cells.toList (zcells s) | none => false)
  | none => false
theorem tinfoB_ok {s : S} {T : TypeId} (h : tinfoB P s T = true) : TInfo P s T := by
  unfold tinfoB at h
  split at h
  · rename_i i hi
    simp only [Bool.and_eq_true, beq_iff_eq] at h
    obtain ⟨⟨h1, h2⟩, h3⟩ := h
    split at h3
    · rename_i z hz
      exact ⟨i, z, hi, h1, Nat.le_of_ble_eq_true h2, hz, eqVals_eq h3⟩
    · cases h3
  · cases h
def oneB (F : TypeId → Bool) (off : Nat) : List Field → Bool
  | [f] => (f.offset == off) && (f.name != "_") && F f.type
  | _ => false
def arrB (P : Program) (s : S) (n : Nat) (e : TypeId) : Bool := match s with
  | .pair .unit r => match rowK r with
    | some (k, m) => decide (r = rowS k m) && (n == m + 1) && (match P.underlying e with | some (.int k') => k' == k | _ => false) && tinfoB P (.int k) e
    | none => false
  | _ => false
theorem arrB_ok {s : S} {n : Nat} {e T : TypeId} (hu : P.underlying T = some (.array n e)) (h : arrB P s n e = true) : ArrT P s T := by
  unfold arrB at h
  split at h
  · split at h
    · rename_i r k m _
      simp only [Bool.and_eq_true, decide_eq_true_eq, beq_iff_eq] at h
      obtain ⟨⟨⟨h1, h2⟩, h3⟩, h4⟩ := h
      split at h3
      · rename_i k' hk
        have : k' = k := by simpa using h3
        subst this
        subst h2
        exact ⟨m, e, k', hu, hk, tinfoB_ok h4, by rw [← h1]⟩
      · cases h3
    · cases h
  · cases h
def keyB (P : Program) (k : S) (T : TypeId) : Bool := match k with
  | .int q => (match P.underlying T with | some (.int q') => q' == q | _ => false)
  | .agg s => (match P.underlying T with
    | some (.array n e) => match s with
      | .pair .unit (.pair (.int q) (.int q')) => (n == 2) && (q' == q) && (match P.underlying e with | some (.int k') => k' == q | _ => false) && tinfoB P (.int q) e
      | _ => false
    | _ => false)
  | _ => false
theorem keyB_ok {k : S} {T : TypeId} (h : keyB P k T = true) : KeyT P k T := by
  unfold keyB at h
  split at h
  · rename_i q
    split at h
    · rename_i q' hu
      have : q' = q := by simpa using h
      subst this
      exact KeyT.int hu
    · cases h
  · split at h
    · rename_i n e hu
      split at h
      · rename_i q q'
        simp only [Bool.and_eq_true, beq_iff_eq] at h
        obtain ⟨⟨⟨h1, h2⟩, h3⟩, h4⟩ := h
        subst h1
        subst h2
        split at h3
        · rename_i k' hk
          have : k' = q' := by simpa using h3
          subst this
          exact KeyT.arr2 hu hk (tinfoB_ok h4)
        · cases h3
      · cases h
    · cases h
  · cases h
def elemB (P : Program) (v : S) (T : TypeId) : Bool := match P.info? T with
  | some i => (match v, i.zero with
    | .int k, some (.int k' n) => (k' == k) && (n == 0)
    | .bool, some (.bool b) => !b
    | _, _ => false)
  | none => false
theorem elemB_ok {v : S} {T : TypeId} (h : elemB P v T = true) : ElemT P v T := by
  unfold elemB at h
  split at h
  · rename_i i hi
    split at h
    · rename_i k k' n hz
      simp only [Bool.and_eq_true, beq_iff_eq] at h
      obtain ⟨rfl, rfl⟩ := h
      exact ⟨rfl, fun w => by simp [zeroValue, typeInfo, hi, hz, fval, Ev.zero]⟩
    · rename_i b hz
      have : b = false := by simpa using h
      subst this
      exact ⟨rfl, fun w => by simp [zeroValue, typeInfo, hi, hz, fval, Ev.zero]⟩
    · cases h
  · cases h
def ftB (P : Program) : S → (TypeId → Bool) × (Nat → List Field → Bool)
  | .int k => let F : TypeId → Bool := fun T => (match P.underlying T with | some (.int k') => k' == k | _ => false) && tinfoB P (.int k) T; (F, oneB F)
  | .bool => let F : TypeId → Bool := fun T => (match P.underlying T with | some .bool => true | _ => false) && tinfoB P .bool T; (F, oneB F)
  | .str => let F : TypeId → Bool := fun T => (match P.underlying T with | some .string => true | _ => false) && tinfoB P .str T; (F, oneB F)
  | .slice nl s => let G := (ftB P s).1; let F : TypeId → Bool := fun T => (match P.underlying T with | some (.slice e) => G e | _ => false) && tinfoB P (.slice nl s) T; (F, oneB F)
  | .ptr s => let G := (ftB P s).1; let F : TypeId → Bool := fun T => (match P.underlying T with | some (.pointer e) => G e | _ => false) && tinfoB P (.ptr s) T; (F, oneB F)
  | .agg s => let G := (ftB P s).2; let F : TypeId → Bool := fun T => (match P.underlying T with | some (.struct fs) => G 0 fs.toList && !P.stoodInHeld T && !P.eqGuardType P.depth T | some (.array n e) => arrB P s n e | _ => false) && tinfoB P (.agg s) T; (F, oneB F)
  | .pair a b => (fun _ => false, fun off fs => match fs with | f :: fs' => (f.offset == off) && (f.name != "_") && (ftB P a).1 f.type && (ftB P b).2 (off + size a) fs' | [] => false)
  | .func a b => let F : TypeId → Bool := fun T => (match P.underlying T with | some (.func _ _ _) => true | _ => false) && tinfoB P (.func a b) T; (F, oneB F)
  | .map k v => let F : TypeId → Bool := fun T => (match P.underlying T with | some (.map kt vt) => keyB P k kt && elemB P v vt | _ => false) && tinfoB P (.map k v) T; (F, oneB F)
  | .unit => (fun _ => false, fun _ _ => false)
theorem oneB_ok {F : TypeId → Bool} {G : TypeId → Prop} (h : ∀ T, F T = true → G T) {off : Nat} {fs : List Field} (e : oneB F off fs = true) : FOne P G off fs := by
  unfold oneB at e
  split at e
  · rename_i f
    simp only [Bool.and_eq_true, beq_iff_eq, bne_iff_ne, ne_eq] at e
    exact ⟨f, rfl, e.1.1, e.1.2, h _ e.2⟩
  · cases e
theorem ftB_ok : ∀ s : S, (∀ T, (ftB P s).1 T = true → Fits P s T) ∧ ∀ off fs, (ftB P s).2 off fs = true → FitsF P s off fs := by
  intro s
  induction s with
  | unit => exact ⟨fun T h => by simp [ftB] at h, fun off fs h => by simp [ftB] at h⟩
  | map k v =>
    have one : ∀ T, (ftB P (.map k v)).1 T = true → Fits P (.map k v) T := fun T h => by
      simp only [ftB, Bool.and_eq_true] at h
      obtain ⟨h1, h2⟩ := h
      split at h1
      · rename_i kt vt hk
        simp only [Bool.and_eq_true] at h1
        exact ⟨⟨kt, vt, hk, keyB_ok h1.1, elemB_ok h1.2⟩, tinfoB_ok h2⟩
      · cases h1
    exact ⟨one, fun off fs h => oneB_ok (P := P) one h⟩
  | int k =>
    have one : ∀ T, (ftB P (.int k)).1 T = true → Fits P (.int k) T := fun T h => by
      simp only [ftB, Bool.and_eq_true] at h
      obtain ⟨h1, h2⟩ := h
      split at h1
      · rename_i k' hk
        have : k' = k := by simpa using h1
        subst this
        exact ⟨hk, tinfoB_ok h2⟩
      · cases h1
    exact ⟨one, fun off fs h => oneB_ok (P := P) one h⟩
  | bool =>
    have one : ∀ T, (ftB P .bool).1 T = true → Fits P .bool T := fun T h => by
      simp only [ftB, Bool.and_eq_true] at h
      obtain ⟨h1, h2⟩ := h
      split at h1
      · rename_i hk; exact ⟨hk, tinfoB_ok h2⟩
      · cases h1
    exact ⟨one, fun off fs h => oneB_ok (P := P) one h⟩
  | str =>
    have one : ∀ T, (ftB P .str).1 T = true → Fits P .str T := fun T h => by
      simp only [ftB, Bool.and_eq_true] at h
      obtain ⟨h1, h2⟩ := h
      split at h1
      · rename_i hk; exact ⟨hk, tinfoB_ok h2⟩
      · cases h1
    exact ⟨one, fun off fs h => oneB_ok (P := P) one h⟩
  | slice nl s ih =>
    have one : ∀ T, (ftB P (.slice nl s)).1 T = true → Fits P (.slice nl s) T := fun T h => by
      simp only [ftB, Bool.and_eq_true] at h
      obtain ⟨h1, h2⟩ := h
      split at h1
      · rename_i e hk; exact ⟨⟨e, hk, ih.1 e h1⟩, tinfoB_ok h2⟩
      · cases h1
    exact ⟨one, fun off fs h => oneB_ok (P := P) one h⟩
  | ptr s ih =>
    have one : ∀ T, (ftB P (.ptr s)).1 T = true → Fits P (.ptr s) T := fun T h => by
      simp only [ftB, Bool.and_eq_true] at h
      obtain ⟨h1, h2⟩ := h
      split at h1
      · rename_i e hk; exact ⟨⟨e, hk, ih.1 e h1⟩, tinfoB_ok h2⟩
      · cases h1
    exact ⟨one, fun off fs h => oneB_ok (P := P) one h⟩
  | agg s ih =>
    have one : ∀ T, (ftB P (.agg s)).1 T = true → Fits P (.agg s) T := fun T h => by
      simp only [ftB, Bool.and_eq_true] at h
      obtain ⟨h1, h2⟩ := h
      split at h1
      · rename_i fs hk
        simp only [Bool.and_eq_true, Bool.not_eq_true'] at h1
        exact ⟨.inl ⟨fs, hk, ih.2 0 _ h1.1.1, h1.1.2, h1.2⟩, tinfoB_ok h2⟩
      · rename_i n e hk
        exact ⟨.inr (arrB_ok hk h1), tinfoB_ok h2⟩
      · cases h1
    exact ⟨one, fun off fs h => oneB_ok (P := P) one h⟩
  | func a b =>
    have one : ∀ T, (ftB P (.func a b)).1 T = true → Fits P (.func a b) T := fun T h => by
      simp only [ftB, Bool.and_eq_true] at h
      obtain ⟨h1, h2⟩ := h
      split at h1
      · rename_i x y z hk; exact ⟨⟨x, y, z, hk⟩, tinfoB_ok h2⟩
      · cases h1
    exact ⟨one, fun off fs h => oneB_ok (P := P) one h⟩
  | pair a b iha ihb =>
    refine ⟨fun T h => by simp [ftB] at h, fun off fs h => ?_⟩
    simp only [ftB] at h
    split at h
    · rename_i f fs'
      simp only [Bool.and_eq_true, beq_iff_eq, bne_iff_ne, ne_eq] at h
      exact ⟨f, fs', rfl, h.1.1.1, h.1.1.2, iha.1 _ h.1.2, ihb.2 _ _ h.2⟩
    · cases h
def tysB (P : Program) : List (Nat × S) → Bool
  | [] => true
  | (T, s) :: l => (ftB P s).1 T && tysB P l
theorem tysB_ok : ∀ {l : List (Nat × S)}, tysB P l = true → ∀ T s, tyOf l T = some s → Fits P s T
  | [], _, T, s, h => by simp [tyOf] at h
  | (T', s') :: l, hb, T, s, h => by
    simp only [tysB, Bool.and_eq_true] at hb
    simp only [tyOf] at h
    cases hn : Nat.beq T' T
    · rw [hn] at h; exact tysB_ok hb.2 T s h
    · rw [hn] at h
      have hT : T' = T := Nat.eq_of_beq_eq_true hn
      subst hT
      simp only [bif3, Option.some.injEq] at h
      subst h
      exact (ftB_ok s').1 _ hb.1
def mkC (tl : List (Nat × S)) (el : List (Nat × Sem)) (hint : Nat → Nat → Nat) (head : Nat → List (Nat × Option (S × M))) (fx : List Nat) (ord : Nat → List Nat) (hid : Nat → Nat → List Nat) (jn : Nat → Option (List (Nat × Option (S × M)))) : Ctx where
  ty := tyOf tl
  env := envOf el
  hint := hint
  head := head
  fix := fx
  ord := ord
  hid := hid
  jn := jn
theorem mkC_ok {tl : List (Nat × S)} {el : List (Nat × Sem)} {hint : Nat → Nat → Nat} {head : Nat → List (Nat × Option (S × M))} {fx : List Nat} {ord : Nat → List Nat} {hid : Nat → Nat → List Nat} {jn : Nat → Option (List (Nat × Option (S × M)))}
    (h1 : tysB P tl = true) (h2 : EnvOk P el) (h3 : P.follows .mixedOrders = true) : CtxOk P (mkC tl el hint head fx ord hid jn) :=
  ⟨fun T s h => tysB_ok h1 T s h, fun f σm h => (h2.get f σm h).1, fun f σm h => (h2.get f σm h).2, h3⟩
end Go.Ev

noncomputable section
namespace Go.Ev
variable {P : Program}
structure Fd where
  fn : Func
  nr : Nat
  r : S
  mr : M
  pm : List PM
  lo : S
  ps : S
def Fd.K (D : Fd) (C : Ctx) : Ex → List Slot → Option (El D.r × El D.lo) := kRet C D.fn D.nr D.r D.mr D.pm D.lo
def Fd.ev (D : Fd) (C : Ctx) (k : Nat) (x : El D.ps) : Option (El D.r × El D.lo) := evalFn C k D.fn D.nr D.r D.mr D.pm D.lo (unp D.ps D.pm x)
def Fd.sem (D : Fd) (F : El D.ps → Option (El D.r × El D.lo)) : Sem := mkSem D.pm D.nr D.r D.mr D.lo D.ps F
def Fd.lp (D : Fd) (C : Ctx) (k r : Nat) (p ns : List Nat) (n : Nat) (l : List (Nat × Slot)) : Option (El D.r × El D.lo) :=
  loopN (C.head r) (evalCode C k (codeAt (p ++ [0]) (body D.fn))) n (st D.fn.ntmps l) (kAt C k p (body D.fn) ns (D.K C))
def Fd.jn (D : Fd) (C : Ctx) (k r : Nat) (p ns : List Nat) (n : Nat) (l : List (Nat × Slot)) : Option (El D.r × El D.lo) :=
  loopN (match C.jn r with | some h => h | none => []) (fun σ _ => evalCode C k (codeAt (p ++ [1]) (body D.fn)) σ (kAt C k p (body D.fn) ns (D.K C))) n (st D.fn.ntmps l) (kAt C k p (body D.fn) ns (D.K C))
def Fd.rc (D : Fd) (C : Nat → (El D.ps → Option (El D.r × El D.lo)) → Ctx) : Nat → El D.ps → Option (El D.r × El D.lo)
  | 0, _ => none
  | k + 1, x => D.ev (C k (D.rc C k)) k x
def Ok (P : Program) (f : FuncId) (σm : Sem) : Prop := Contract P f σm ∧ CallOk P f
def Fd.Is (D : Fd) (P : Program) (f : FuncId) : Prop := P.funcs[f]? = some D.fn ∧ D.fn.body.isNone = false ∧ (D.fn.name == "runtime.NumGoroutine") = false
theorem Fd.ok {D : Fd} {C : Ctx} {f k : Nat} (hC : CtxOk P C) (h : D.Is P f) (hfix : C.fix = loanIdx 0 D.pm) : Ok P f (D.sem (D.ev C k)) := by
  obtain ⟨hf, hb, hn⟩ := h
  refine ⟨?_, D.fn, hf, hb, hn⟩
  cases e : D.fn.body with
  | none => rw [e] at hb; cases hb
  | some c => exact fn_ok hC hf e hfix (fun _ => rfl)
def vI (x : Int) : Slot := .val I .sh x
def vB (x : Bool) : Slot := .val .bool .sh x
def vS (s : S) (x : El s) : Slot := .val s .sh x
def vO (s : S) (x : El s) : Slot := .val s (topM s) x
end Go.Ev

namespace Go.Ev
theorem gd_t {R : Type} {c : Prop} (h : c) (k : Option R) : gd c k = k := if_pos h
@[grind =] theorem gd_ite {R : Type} (c : Prop) [Decidable c] (k : Option R) : gd c k = if c then k else none := by
  unfold gd; split <;> simp_all
@[simp] theorem gd_true {R : Type} (k : Option R) : gd True k = k := if_pos trivial
@[simp] theorem gd_false {R : Type} (k : Option R) : gd False k = none := if_neg id
@[grind =] theorem w64_id {x : Int} (h0 : -9223372036854775808 ≤ x) (h1 : x ≤ 9223372036854775807) : w64 x = x := IntWalk.i64_in x ⟨h0, h1⟩
theorem for_post {σ R : Type} {l : Nat → σ → Int → R} {m : Nat} (I : Nat → σ → Prop) (Q : R → Prop)
    (stop : ∀ n s, I m s → Q (l (n + 1) s (m : Int)))
    (step : ∀ n j s, j < m → I j s → (∀ s', I (j + 1) s' → Q (l n s' ((j : Int) + 1))) → Q (l (n + 1) s (j : Int))) :
    ∀ {k s}, m < k → I 0 s → Q (l k s 0) := by
  have key : ∀ d n j s, j + d = m → d < n → I j s → Q (l n s (j : Int)) := by
    intro d
    induction d with
    | zero =>
      intro n j s h hn hI
      obtain ⟨n, rfl⟩ : ∃ q, n = q + 1 := ⟨n - 1, by omega⟩
      have : j = m := by omega
      subst this
      exact stop n s hI
    | succ d ih =>
      intro n j s h hn hI
      obtain ⟨n, rfl⟩ : ∃ q, n = q + 1 := ⟨n - 1, by omega⟩
      refine step n j s (by omega) hI fun s' h' => ?_
      have := ih n (j + 1) s' (by omega) (by omega) h'
      simpa using this
  intro k s hk hI
  exact key m k 0 s (by omega) hk hI
theorem for_postF {σ R : Type} {l : Nat → σ → Int → R} {m : Nat} (I : Nat → σ → Prop) (Q : R → Prop)
    (stop : ∀ n s, I m s → Q (l (n + 1) s (m : Int)))
    (step : ∀ n j s, j < m → m < j + 1 + n → I j s → (∀ s', I (j + 1) s' → Q (l n s' ((j : Int) + 1))) → Q (l (n + 1) s (j : Int))) :
    ∀ {k s}, m < k → I 0 s → Q (l k s 0) := by
  have key : ∀ d n j s, j + d = m → d < n → I j s → Q (l n s (j : Int)) := by
    intro d
    induction d with
    | zero =>
      intro n j s h hn hI
      obtain ⟨n, rfl⟩ : ∃ q, n = q + 1 := ⟨n - 1, by omega⟩
      have : j = m := by omega
      subst this
      exact stop n s hI
    | succ d ih =>
      intro n j s h hn hI
      obtain ⟨n, rfl⟩ : ∃ q, n = q + 1 := ⟨n - 1, by omega⟩
      refine step n j s (by omega) (by omega) hI fun s' h' => ?_
      have := ih n (j + 1) s' (by omega) (by omega) h'
      simpa using this
  intro k s hk hI
  exact key m k 0 s (by omega) hk hI
theorem while_post {σ R : Type} {l : Nat → σ → R} (μ : σ → Nat) (I : σ → Prop) (Q : R → Prop)
    (step : ∀ n s, I s → (∀ s', I s' → μ s' < μ s → Q (l n s')) → Q (l (n + 1) s)) : ∀ {k s}, μ s < k → I s → Q (l k s) := by
  intro k
  induction k with
  | zero => intro s h; omega
  | succ n ih => intro s h hI; exact step n s hI fun s' h' hm => ih (by omega) h'
theorem getD_get {α : Type} {xs : List α} {j : Nat} {d : α} (h : j < xs.length) : xs.getD j d = xs[j] := by
  simp [List.getD, List.getElem?_eq_getElem h]
theorem mem_take1 {α : Type} {p : List α} {j : Nat} (h : j < p.length) (x : α) : x ∈ p.take (j + 1) ↔ x ∈ p.take j ∨ x = p[j] := by
  rw [List.take_succ_eq_append_getElem h, List.mem_append, List.mem_singleton]
end Go.Ev
