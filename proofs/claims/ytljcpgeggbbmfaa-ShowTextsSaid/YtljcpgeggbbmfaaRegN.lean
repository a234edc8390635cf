/-
  A region that draws its order, whose last operations write what was loaded: S is kept by the operations that 'need' names alone.
-/
import Derived.Deep.RegionHeld
import Derived.Deep.RegionWith

namespace Go.Proofs.Ytljcpgeggbbmfaa
set_option linter.unusedVariables false
set_option linter.unusedSimpArgs false
open Go

section
variable {P : Program} {ops : Array Oper} {Q : Exit → Act → World → Prop} {md : Region.Mode} {S : World → Prop} {need : Nat → Bool}

/-- 'j' waits for 'i', straight or by others. -/
def waitsFor (md : Region.Mode) (ops : Array Oper) (i : Nat) : Nat → Nat → Bool
  | 0, _ => false
  | n + 1, j => match ops[j]? with
    | some o => o.after.any fun e => Region.binds md e && (e.on == i || waitsFor md ops i n e.on)
    | none => false

/-- What has come up came behind what it waits for. -/
def ShutBack (md : Region.Mode) (ops : Array Oper) (listed : Array Bool) : Prop :=
  ∀ j o, ops[j]? = some o → listed.getD j true = true → ∀ e ∈ o.after, Region.binds md e = true → listed.getD e.on true = true

theorem getD_up {listed : Array Bool} {j : Nat} (h : listed.getD j false = true) : listed.getD j true = true := by
  rcases Nat.lt_or_ge j listed.size with h' | h'
  · simp [h'] at h ⊢; exact h
  · simp [Array.getElem?_eq_none h'] at h

theorem ShutBack.waits {listed : Array Bool} (h : ShutBack md ops listed) {i : Nat} :
    ∀ (n j : Nat), listed.getD j true = true → waitsFor md ops i n j = true → listed.getD i true = true
  | 0, _, _, hw => by simp [waitsFor] at hw
  | n + 1, j, hl, hw => by
    unfold waitsFor at hw
    cases ho : ops[j]? with
    | none => simp [ho] at hw
    | some o =>
      simp only [ho] at hw
      obtain ⟨e, he, hb⟩ := Array.any_eq_true'.1 hw
      simp only [Bool.and_eq_true, Bool.or_eq_true, beq_iff_eq] at hb
      have h1 := h j o ho hl e he hb.1
      rcases hb.2 with h2 | h2
      · exact h2 ▸ h1
      · exact h.waits n _ h1 h2

theorem ShutBack.ready_waits {listed : Array Bool} (h : ShutBack md ops listed) {i n j : Nat} (hj : j ∈ Region.ready md ops listed)
    (hw : waitsFor md ops i n j = true) : listed.getD i true = true := by
  obtain ⟨_, o, ho, hall⟩ := mem_ready.1 hj
  cases n with
  | zero => simp [waitsFor] at hw
  | succ n =>
    unfold waitsFor at hw
    simp only [ho] at hw
    obtain ⟨e, he, hb⟩ := Array.any_eq_true'.1 hw
    simp only [Bool.and_eq_true, Bool.or_eq_true, beq_iff_eq] at hb
    have h1 := getD_up (hall e he hb.1)
    rcases hb.2 with h2 | h2
    · exact h2 ▸ h1
    · exact h.waits n _ h1 h2

theorem ShutBack.step {listed : Array Bool} (h : ShutBack md ops listed) {k : Nat} (hk : k ∈ Region.ready md ops listed) :
    ShutBack md ops (listed.setIfInBounds k true) := by
  intro j o ho hl e he hb
  obtain ⟨_, ok, hok, hall⟩ := mem_ready.1 hk
  by_cases hjk : k = j
  · subst hjk
    obtain rfl := Option.some.inj (hok.symm.trans ho)
    exact getD_up (getD_set_true (hall e he hb))
  · rw [getD_set_ne true hjk] at hl
    have h1 := h j o ho hl e he hb
    by_cases hke : k = e.on
    · subst hke
      rcases Nat.lt_or_ge e.on listed.size with h' | h'
      · simp [h']
      · simp [h']
    · rw [getD_set_ne true hke]; exact h1

theorem shutBack_start (n : Nat) (hn : ops.size ≤ n) : ShutBack md ops (Array.replicate n false) := by
  intro j o ho hl
  have hlt : j < n := Nat.lt_of_lt_of_le (Array.getElem?_eq_some_iff.1 ho).1 hn
  simp [hlt] at hl

/-- Whatever order is picked, and S holds behind each operation that 'need' names. -/
def wpAnyN (P : Program) (md : Region.Mode) (ops : Array Oper) (Q : Exit → Act → World → Prop) (S : World → Prop) (need : Nat → Bool) : Nat → Array Bool → Act → World → Prop
  | 0, listed, a, w => Region.ready md ops listed = [] ∧ Q .normal a w
  | fuel + 1, listed, a, w =>
    (Region.ready md ops listed = [] → Q .normal a w) ∧
    ∀ i ∈ Region.ready md ops listed, wpOp P ops Q i (fun a' w' => (need i = true → S w') ∧ wpAnyN P md ops Q S need fuel (listed.setIfInBounds i true) a' w') a w

theorem wpAny_of_N : ∀ (fuel : Nat) (listed : Array Bool) (a : Act) (w : World), wpAnyN P md ops Q S need fuel listed a w → wpAny P md ops Q fuel listed a w
  | 0, _, _, _, h => h
  | fuel + 1, _, _, _, h => ⟨h.1, fun i hi => wpOp_mono (fun a' w' h' => wpAny_of_N fuel _ a' w' h'.2) (h.2 i hi)⟩

theorem wpAnyN_first {i : Nat} {oi : Oper} {v : Value} (hi : ops[i]? = some oi) (hsel : ∀ (j : Nat) (o : Oper) cs b, ops[j]? = some o → o.op ≠ .select cs b)
    (hQ : ∀ c a w, Q (.panic c) (a.put oi.dst v) w → Q (.panic c) a w)
    (hn : ∀ (j : Nat) (o : Oper), ops[j]? = some o → need j = true ∨ j = i ∨ waitsFor md ops i ops.size j = true) :
    ∀ (fuel : Nat) (listed : Array Bool) (a : Act) (w : World), ShutBack md ops listed →
      (∀ j oj, ops[j]? = some oj → j ≠ i → listed.getD j true = false → (∀ e ∈ oj.after, Region.binds md e = true → e.on ≠ i) → oi.apart ops oj = true) →
      i ∈ Region.ready md ops listed → YieldsIf P ops S oi v a → S w →
      wpAnyN P md ops Q S need fuel (listed.setIfInBounds i true) (a.put oi.dst v) w → wpAnyN P md ops Q S need (fuel + 1) listed a w := by
  intro fuel
  induction fuel with
  | zero =>
    intro listed a w _ _ hr hy hS H
    refine ⟨fun h => (by rw [h] at hr; cases hr), fun j hj => ?_⟩
    by_cases hji : j = i
    · subst hji; exact hy.wpOp hi hS ⟨fun _ => hS, H⟩
    · have := ready_mono hj hji
      rw [H.1] at this
      cases this
  | succ fuel ih =>
    intro listed a w hb hfree hr hy hS H
    refine ⟨fun h => (by rw [h] at hr; cases hr), fun j hj => ?_⟩
    by_cases hji : j = i
    · subst hji; exact hy.wpOp hi hS ⟨fun _ => hS, H⟩
    · have h1 := H.2 j (ready_mono hj hji)
      obtain ⟨hjun, oj, hoj, hall⟩ := mem_ready.1 hj
      have hi0 := (mem_ready.1 hr).1
      have hnj : need j = true := by
        rcases hn j oj hoj with h | h | h
        · exact h
        · exact absurd h hji
        · have := hb.ready_waits hj h
          rw [hi0] at this
          cases this
      have hnot : ∀ e ∈ oj.after, Region.binds md e = true → e.on ≠ i := fun e he hbd heq => by
        have h1 := getD_up (hall e he hbd)
        rw [heq, hi0] at h1
        cases h1
      have h2 := wpOp_putIf hoj (hfree j oj hoj hji hjun hnot) (fun cs b => hsel i oi cs b hi) (fun cs b => hsel j oj cs b hoj) hQ hy h1
      have hfree' : ∀ k ok, ops[k]? = some ok → k ≠ i → (listed.setIfInBounds j true).getD k true = false →
          (∀ e ∈ ok.after, Region.binds md e = true → e.on ≠ i) → oi.apart ops ok = true := fun k ok hk hki hun hno => by
        refine hfree k ok hk hki ?_ hno
        by_cases hjk : j = k
        · subst hjk; exact hjun
        · rw [getD_set_ne true hjk] at hun; exact hun
      refine wpOp_mono (fun a' w' h3 => ⟨h3.2.1, ih (listed.setIfInBounds j true) a' w' (hb.step hj) hfree' (ready_mono hr (Ne.symm hji)) h3.1 (h3.2.1 hnj) ?_⟩) h2
      rw [Array.setIfInBounds_comm _ _ hji]
      exact h3.2.2

/-- The whole of the order's state, for the walk: 'listed' is shut. -/
theorem wpAnyN_take {i : Nat} {oi : Oper} {v : Value} {fuel : Nat} {listed : Array Bool} {a : Act} {w : World} (hi : ops[i]? = some oi)
    (hs : Region.noSelect ops = true) (hf : Region.free md ops listed i = true) (hr : (Region.ready md ops listed).contains i = true)
    (hn : ((List.range ops.size).all fun j => need j || j == i || waitsFor md ops i ops.size j) = true)
    (hQ : ∀ c a w, Q (.panic c) (a.put oi.dst v) w → Q (.panic c) a w) (hy : YieldsIf P ops S oi v a) (hS : S w) (hb : ShutBack md ops listed)
    (h : ShutBack md ops (listed.setIfInBounds i true) → wpAnyN P md ops Q S need fuel (listed.setIfInBounds i true) (a.put oi.dst v) w) : wpAnyN P md ops Q S need (fuel + 1) listed a w := by
  have hr' : i ∈ Region.ready md ops listed := by simpa using hr
  refine wpAnyN_first hi (Region.noSelect_spec hs) hQ (fun j o ho => ?_) fuel listed a w hb (Region.free_spec hi hf) hr' hy hS (h (hb.step hr'))
  have h1 := List.all_eq_true.1 hn j (List.mem_range.2 (Array.getElem?_eq_some_iff.1 ho).1)
  simp only [Bool.or_eq_true, beq_iff_eq] at h1
  rcases h1 with (h1 | h1) | h1
  · exact .inl h1
  · exact .inr (.inl h1)
  · exact .inr (.inr h1)

/-- One operation alone may come up. -/
theorem wpAnyN_one {i : Nat} {o : Oper} {fuel : Nat} {listed : Array Bool} {a : Act} {w : World} (hr : Region.ready md ops listed = [i]) (ho : ops[i]? = some o) (hb : ShutBack md ops listed)
    (h : ∀ K' : Act → World → Prop, Shut (∀ a w, (need i = true → S w) → ((need i = true → S w) → ShutBack md ops (listed.setIfInBounds i true) → wpAnyN P md ops Q S need fuel (listed.setIfInBounds i true) a w) → K' a w) → if Region.wanted o (yielded ops a.tmps) = true then Oper.wp P o a w K' Q else K' (a.put o.dst undef) w) :
    wpAnyN P md ops Q S need (fuel + 1) listed a w := by
  have hb2 := hb.step (k := i) (by rw [hr]; exact List.mem_singleton.2 rfl)
  refine ⟨fun h0 => (by rw [hr] at h0; cases h0), fun j hj => ?_⟩
  rw [hr] at hj
  obtain rfl := List.mem_singleton.1 hj
  exact wpOp_step ho (fun K' hK => h K' (fun a w hS hW => hK a w ⟨hS, hW hS hb2⟩))

theorem wpAnyN_done {listed : Array Bool} {a : Act} {w : World} (hr : Region.ready md ops listed = []) (h : Q .normal a w) :
    ∀ fuel, wpAnyN P md ops Q S need fuel listed a w
  | 0 => ⟨hr, h⟩
  | _ + 1 => ⟨fun _ => h, by rw [hr]; simp⟩

theorem wp_region_N {id : Nat} {a : Act} {w : World} (need : Nat → Bool) (S : World → Prop) (hm : P.follows .mixedOrders = true) (hS : S w.drew)
    (h : ShutBack .any ops (Array.replicate ops.size false) → S w.drew → wpAnyN P .any ops Q S need ops.size (Array.replicate ops.size false) a w.drew) : (Code.region id ops true).wp P Q a w :=
  wp_region_any hm (wpAny_of_N _ _ _ _ (h (shutBack_start _ (Nat.le_refl _)) hS))

theorem wpAnyN_take_0 {o0 : Oper} {l : List Oper} {v : Value} {fuel : Nat} {listed : Array Bool} {a : Act} {w : World} (hs : Region.noSelect (o0 :: l).toArray = true) (hf : Region.free md (o0 :: l).toArray listed 0 = true) (hr : (Region.ready md (o0 :: l).toArray listed).contains 0 = true)
    (hn : ((List.range (o0 :: l).toArray.size).all fun j => need j || j == 0 || waitsFor md (o0 :: l).toArray 0 (o0 :: l).toArray.size j) = true) (hQ : ∀ c a w, Q (.panic c) (a.put o0.dst v) w → Q (.panic c) a w) (hy : YieldsIf P (o0 :: l).toArray S o0 v a) (hS : S w) (hb : ShutBack md (o0 :: l).toArray listed)
    (h : ShutBack md (o0 :: l).toArray (listed.setIfInBounds 0 true) → wpAnyN P md (o0 :: l).toArray Q S need fuel (listed.setIfInBounds 0 true) (a.put o0.dst v) w) : wpAnyN P md (o0 :: l).toArray Q S need (fuel + 1) listed a w :=
  wpAnyN_take (i := 0) (oi := o0) rfl hs hf hr hn hQ hy hS hb h
theorem wpAnyN_one_0 {o0 : Oper} {l : List Oper} {fuel : Nat} {listed : Array Bool} {a : Act} {w : World} (hr : Region.ready md (o0 :: l).toArray listed = [0]) (hb : ShutBack md (o0 :: l).toArray listed)
    (h : ∀ K' : Act → World → Prop, Shut (∀ a w, (need 0 = true → S w) → ((need 0 = true → S w) → ShutBack md (o0 :: l).toArray (listed.setIfInBounds 0 true) → wpAnyN P md (o0 :: l).toArray Q S need fuel (listed.setIfInBounds 0 true) a w) → K' a w) → if Region.wanted o0 (yielded (o0 :: l).toArray a.tmps) = true then Oper.wp P o0 a w K' Q else K' (a.put o0.dst undef) w) :
    wpAnyN P md (o0 :: l).toArray Q S need (fuel + 1) listed a w := wpAnyN_one (i := 0) (o := o0) hr rfl hb h
theorem wpAnyN_take_1 {o0 o1 : Oper} {l : List Oper} {v : Value} {fuel : Nat} {listed : Array Bool} {a : Act} {w : World} (hs : Region.noSelect (o0 :: o1 :: l).toArray = true) (hf : Region.free md (o0 :: o1 :: l).toArray listed 1 = true) (hr : (Region.ready md (o0 :: o1 :: l).toArray listed).contains 1 = true)
    (hn : ((List.range (o0 :: o1 :: l).toArray.size).all fun j => need j || j == 1 || waitsFor md (o0 :: o1 :: l).toArray 1 (o0 :: o1 :: l).toArray.size j) = true) (hQ : ∀ c a w, Q (.panic c) (a.put o1.dst v) w → Q (.panic c) a w) (hy : YieldsIf P (o0 :: o1 :: l).toArray S o1 v a) (hS : S w) (hb : ShutBack md (o0 :: o1 :: l).toArray listed)
    (h : ShutBack md (o0 :: o1 :: l).toArray (listed.setIfInBounds 1 true) → wpAnyN P md (o0 :: o1 :: l).toArray Q S need fuel (listed.setIfInBounds 1 true) (a.put o1.dst v) w) : wpAnyN P md (o0 :: o1 :: l).toArray Q S need (fuel + 1) listed a w :=
  wpAnyN_take (i := 1) (oi := o1) rfl hs hf hr hn hQ hy hS hb h
theorem wpAnyN_one_1 {o0 o1 : Oper} {l : List Oper} {fuel : Nat} {listed : Array Bool} {a : Act} {w : World} (hr : Region.ready md (o0 :: o1 :: l).toArray listed = [1]) (hb : ShutBack md (o0 :: o1 :: l).toArray listed)
    (h : ∀ K' : Act → World → Prop, Shut (∀ a w, (need 1 = true → S w) → ((need 1 = true → S w) → ShutBack md (o0 :: o1 :: l).toArray (listed.setIfInBounds 1 true) → wpAnyN P md (o0 :: o1 :: l).toArray Q S need fuel (listed.setIfInBounds 1 true) a w) → K' a w) → if Region.wanted o1 (yielded (o0 :: o1 :: l).toArray a.tmps) = true then Oper.wp P o1 a w K' Q else K' (a.put o1.dst undef) w) :
    wpAnyN P md (o0 :: o1 :: l).toArray Q S need (fuel + 1) listed a w := wpAnyN_one (i := 1) (o := o1) hr rfl hb h
theorem wpAnyN_take_2 {o0 o1 o2 : Oper} {l : List Oper} {v : Value} {fuel : Nat} {listed : Array Bool} {a : Act} {w : World} (hs : Region.noSelect (o0 :: o1 :: o2 :: l).toArray = true) (hf : Region.free md (o0 :: o1 :: o2 :: l).toArray listed 2 = true) (hr : (Region.ready md (o0 :: o1 :: o2 :: l).toArray listed).contains 2 = true)
    (hn : ((List.range (o0 :: o1 :: o2 :: l).toArray.size).all fun j => need j || j == 2 || waitsFor md (o0 :: o1 :: o2 :: l).toArray 2 (o0 :: o1 :: o2 :: l).toArray.size j) = true) (hQ : ∀ c a w, Q (.panic c) (a.put o2.dst v) w → Q (.panic c) a w) (hy : YieldsIf P (o0 :: o1 :: o2 :: l).toArray S o2 v a) (hS : S w) (hb : ShutBack md (o0 :: o1 :: o2 :: l).toArray listed)
    (h : ShutBack md (o0 :: o1 :: o2 :: l).toArray (listed.setIfInBounds 2 true) → wpAnyN P md (o0 :: o1 :: o2 :: l).toArray Q S need fuel (listed.setIfInBounds 2 true) (a.put o2.dst v) w) : wpAnyN P md (o0 :: o1 :: o2 :: l).toArray Q S need (fuel + 1) listed a w :=
  wpAnyN_take (i := 2) (oi := o2) rfl hs hf hr hn hQ hy hS hb h
theorem wpAnyN_one_2 {o0 o1 o2 : Oper} {l : List Oper} {fuel : Nat} {listed : Array Bool} {a : Act} {w : World} (hr : Region.ready md (o0 :: o1 :: o2 :: l).toArray listed = [2]) (hb : ShutBack md (o0 :: o1 :: o2 :: l).toArray listed)
    (h : ∀ K' : Act → World → Prop, Shut (∀ a w, (need 2 = true → S w) → ((need 2 = true → S w) → ShutBack md (o0 :: o1 :: o2 :: l).toArray (listed.setIfInBounds 2 true) → wpAnyN P md (o0 :: o1 :: o2 :: l).toArray Q S need fuel (listed.setIfInBounds 2 true) a w) → K' a w) → if Region.wanted o2 (yielded (o0 :: o1 :: o2 :: l).toArray a.tmps) = true then Oper.wp P o2 a w K' Q else K' (a.put o2.dst undef) w) :
    wpAnyN P md (o0 :: o1 :: o2 :: l).toArray Q S need (fuel + 1) listed a w := wpAnyN_one (i := 2) (o := o2) hr rfl hb h
theorem wpAnyN_take_3 {o0 o1 o2 o3 : Oper} {l : List Oper} {v : Value} {fuel : Nat} {listed : Array Bool} {a : Act} {w : World} (hs : Region.noSelect (o0 :: o1 :: o2 :: o3 :: l).toArray = true) (hf : Region.free md (o0 :: o1 :: o2 :: o3 :: l).toArray listed 3 = true) (hr : (Region.ready md (o0 :: o1 :: o2 :: o3 :: l).toArray listed).contains 3 = true)
    (hn : ((List.range (o0 :: o1 :: o2 :: o3 :: l).toArray.size).all fun j => need j || j == 3 || waitsFor md (o0 :: o1 :: o2 :: o3 :: l).toArray 3 (o0 :: o1 :: o2 :: o3 :: l).toArray.size j) = true) (hQ : ∀ c a w, Q (.panic c) (a.put o3.dst v) w → Q (.panic c) a w) (hy : YieldsIf P (o0 :: o1 :: o2 :: o3 :: l).toArray S o3 v a) (hS : S w) (hb : ShutBack md (o0 :: o1 :: o2 :: o3 :: l).toArray listed)
    (h : ShutBack md (o0 :: o1 :: o2 :: o3 :: l).toArray (listed.setIfInBounds 3 true) → wpAnyN P md (o0 :: o1 :: o2 :: o3 :: l).toArray Q S need fuel (listed.setIfInBounds 3 true) (a.put o3.dst v) w) : wpAnyN P md (o0 :: o1 :: o2 :: o3 :: l).toArray Q S need (fuel + 1) listed a w :=
  wpAnyN_take (i := 3) (oi := o3) rfl hs hf hr hn hQ hy hS hb h
theorem wpAnyN_one_3 {o0 o1 o2 o3 : Oper} {l : List Oper} {fuel : Nat} {listed : Array Bool} {a : Act} {w : World} (hr : Region.ready md (o0 :: o1 :: o2 :: o3 :: l).toArray listed = [3]) (hb : ShutBack md (o0 :: o1 :: o2 :: o3 :: l).toArray listed)
    (h : ∀ K' : Act → World → Prop, Shut (∀ a w, (need 3 = true → S w) → ((need 3 = true → S w) → ShutBack md (o0 :: o1 :: o2 :: o3 :: l).toArray (listed.setIfInBounds 3 true) → wpAnyN P md (o0 :: o1 :: o2 :: o3 :: l).toArray Q S need fuel (listed.setIfInBounds 3 true) a w) → K' a w) → if Region.wanted o3 (yielded (o0 :: o1 :: o2 :: o3 :: l).toArray a.tmps) = true then Oper.wp P o3 a w K' Q else K' (a.put o3.dst undef) w) :
    wpAnyN P md (o0 :: o1 :: o2 :: o3 :: l).toArray Q S need (fuel + 1) listed a w := wpAnyN_one (i := 3) (o := o3) hr rfl hb h
theorem wpAnyN_take_4 {o0 o1 o2 o3 o4 : Oper} {l : List Oper} {v : Value} {fuel : Nat} {listed : Array Bool} {a : Act} {w : World} (hs : Region.noSelect (o0 :: o1 :: o2 :: o3 :: o4 :: l).toArray = true) (hf : Region.free md (o0 :: o1 :: o2 :: o3 :: o4 :: l).toArray listed 4 = true) (hr : (Region.ready md (o0 :: o1 :: o2 :: o3 :: o4 :: l).toArray listed).contains 4 = true)
    (hn : ((List.range (o0 :: o1 :: o2 :: o3 :: o4 :: l).toArray.size).all fun j => need j || j == 4 || waitsFor md (o0 :: o1 :: o2 :: o3 :: o4 :: l).toArray 4 (o0 :: o1 :: o2 :: o3 :: o4 :: l).toArray.size j) = true) (hQ : ∀ c a w, Q (.panic c) (a.put o4.dst v) w → Q (.panic c) a w) (hy : YieldsIf P (o0 :: o1 :: o2 :: o3 :: o4 :: l).toArray S o4 v a) (hS : S w) (hb : ShutBack md (o0 :: o1 :: o2 :: o3 :: o4 :: l).toArray listed)
    (h : ShutBack md (o0 :: o1 :: o2 :: o3 :: o4 :: l).toArray (listed.setIfInBounds 4 true) → wpAnyN P md (o0 :: o1 :: o2 :: o3 :: o4 :: l).toArray Q S need fuel (listed.setIfInBounds 4 true) (a.put o4.dst v) w) : wpAnyN P md (o0 :: o1 :: o2 :: o3 :: o4 :: l).toArray Q S need (fuel + 1) listed a w :=
  wpAnyN_take (i := 4) (oi := o4) rfl hs hf hr hn hQ hy hS hb h
theorem wpAnyN_one_4 {o0 o1 o2 o3 o4 : Oper} {l : List Oper} {fuel : Nat} {listed : Array Bool} {a : Act} {w : World} (hr : Region.ready md (o0 :: o1 :: o2 :: o3 :: o4 :: l).toArray listed = [4]) (hb : ShutBack md (o0 :: o1 :: o2 :: o3 :: o4 :: l).toArray listed)
    (h : ∀ K' : Act → World → Prop, Shut (∀ a w, (need 4 = true → S w) → ((need 4 = true → S w) → ShutBack md (o0 :: o1 :: o2 :: o3 :: o4 :: l).toArray (listed.setIfInBounds 4 true) → wpAnyN P md (o0 :: o1 :: o2 :: o3 :: o4 :: l).toArray Q S need fuel (listed.setIfInBounds 4 true) a w) → K' a w) → if Region.wanted o4 (yielded (o0 :: o1 :: o2 :: o3 :: o4 :: l).toArray a.tmps) = true then Oper.wp P o4 a w K' Q else K' (a.put o4.dst undef) w) :
    wpAnyN P md (o0 :: o1 :: o2 :: o3 :: o4 :: l).toArray Q S need (fuel + 1) listed a w := wpAnyN_one (i := 4) (o := o4) hr rfl hb h
theorem wpAnyN_take_5 {o0 o1 o2 o3 o4 o5 : Oper} {l : List Oper} {v : Value} {fuel : Nat} {listed : Array Bool} {a : Act} {w : World} (hs : Region.noSelect (o0 :: o1 :: o2 :: o3 :: o4 :: o5 :: l).toArray = true) (hf : Region.free md (o0 :: o1 :: o2 :: o3 :: o4 :: o5 :: l).toArray listed 5 = true) (hr : (Region.ready md (o0 :: o1 :: o2 :: o3 :: o4 :: o5 :: l).toArray listed).contains 5 = true)
    (hn : ((List.range (o0 :: o1 :: o2 :: o3 :: o4 :: o5 :: l).toArray.size).all fun j => need j || j == 5 || waitsFor md (o0 :: o1 :: o2 :: o3 :: o4 :: o5 :: l).toArray 5 (o0 :: o1 :: o2 :: o3 :: o4 :: o5 :: l).toArray.size j) = true) (hQ : ∀ c a w, Q (.panic c) (a.put o5.dst v) w → Q (.panic c) a w) (hy : YieldsIf P (o0 :: o1 :: o2 :: o3 :: o4 :: o5 :: l).toArray S o5 v a) (hS : S w) (hb : ShutBack md (o0 :: o1 :: o2 :: o3 :: o4 :: o5 :: l).toArray listed)
    (h : ShutBack md (o0 :: o1 :: o2 :: o3 :: o4 :: o5 :: l).toArray (listed.setIfInBounds 5 true) → wpAnyN P md (o0 :: o1 :: o2 :: o3 :: o4 :: o5 :: l).toArray Q S need fuel (listed.setIfInBounds 5 true) (a.put o5.dst v) w) : wpAnyN P md (o0 :: o1 :: o2 :: o3 :: o4 :: o5 :: l).toArray Q S need (fuel + 1) listed a w :=
  wpAnyN_take (i := 5) (oi := o5) rfl hs hf hr hn hQ hy hS hb h
theorem wpAnyN_one_5 {o0 o1 o2 o3 o4 o5 : Oper} {l : List Oper} {fuel : Nat} {listed : Array Bool} {a : Act} {w : World} (hr : Region.ready md (o0 :: o1 :: o2 :: o3 :: o4 :: o5 :: l).toArray listed = [5]) (hb : ShutBack md (o0 :: o1 :: o2 :: o3 :: o4 :: o5 :: l).toArray listed)
    (h : ∀ K' : Act → World → Prop, Shut (∀ a w, (need 5 = true → S w) → ((need 5 = true → S w) → ShutBack md (o0 :: o1 :: o2 :: o3 :: o4 :: o5 :: l).toArray (listed.setIfInBounds 5 true) → wpAnyN P md (o0 :: o1 :: o2 :: o3 :: o4 :: o5 :: l).toArray Q S need fuel (listed.setIfInBounds 5 true) a w) → K' a w) → if Region.wanted o5 (yielded (o0 :: o1 :: o2 :: o3 :: o4 :: o5 :: l).toArray a.tmps) = true then Oper.wp P o5 a w K' Q else K' (a.put o5.dst undef) w) :
    wpAnyN P md (o0 :: o1 :: o2 :: o3 :: o4 :: o5 :: l).toArray Q S need (fuel + 1) listed a w := wpAnyN_one (i := 5) (o := o5) hr rfl hb h
theorem wpAnyN_take_6 {o0 o1 o2 o3 o4 o5 o6 : Oper} {l : List Oper} {v : Value} {fuel : Nat} {listed : Array Bool} {a : Act} {w : World} (hs : Region.noSelect (o0 :: o1 :: o2 :: o3 :: o4 :: o5 :: o6 :: l).toArray = true) (hf : Region.free md (o0 :: o1 :: o2 :: o3 :: o4 :: o5 :: o6 :: l).toArray listed 6 = true) (hr : (Region.ready md (o0 :: o1 :: o2 :: o3 :: o4 :: o5 :: o6 :: l).toArray listed).contains 6 = true)
    (hn : ((List.range (o0 :: o1 :: o2 :: o3 :: o4 :: o5 :: o6 :: l).toArray.size).all fun j => need j || j == 6 || waitsFor md (o0 :: o1 :: o2 :: o3 :: o4 :: o5 :: o6 :: l).toArray 6 (o0 :: o1 :: o2 :: o3 :: o4 :: o5 :: o6 :: l).toArray.size j) = true) (hQ : ∀ c a w, Q (.panic c) (a.put o6.dst v) w → Q (.panic c) a w) (hy : YieldsIf P (o0 :: o1 :: o2 :: o3 :: o4 :: o5 :: o6 :: l).toArray S o6 v a) (hS : S w) (hb : ShutBack md (o0 :: o1 :: o2 :: o3 :: o4 :: o5 :: o6 :: l).toArray listed)
    (h : ShutBack md (o0 :: o1 :: o2 :: o3 :: o4 :: o5 :: o6 :: l).toArray (listed.setIfInBounds 6 true) → wpAnyN P md (o0 :: o1 :: o2 :: o3 :: o4 :: o5 :: o6 :: l).toArray Q S need fuel (listed.setIfInBounds 6 true) (a.put o6.dst v) w) : wpAnyN P md (o0 :: o1 :: o2 :: o3 :: o4 :: o5 :: o6 :: l).toArray Q S need (fuel + 1) listed a w :=
  wpAnyN_take (i := 6) (oi := o6) rfl hs hf hr hn hQ hy hS hb h
theorem wpAnyN_one_6 {o0 o1 o2 o3 o4 o5 o6 : Oper} {l : List Oper} {fuel : Nat} {listed : Array Bool} {a : Act} {w : World} (hr : Region.ready md (o0 :: o1 :: o2 :: o3 :: o4 :: o5 :: o6 :: l).toArray listed = [6]) (hb : ShutBack md (o0 :: o1 :: o2 :: o3 :: o4 :: o5 :: o6 :: l).toArray listed)
    (h : ∀ K' : Act → World → Prop, Shut (∀ a w, (need 6 = true → S w) → ((need 6 = true → S w) → ShutBack md (o0 :: o1 :: o2 :: o3 :: o4 :: o5 :: o6 :: l).toArray (listed.setIfInBounds 6 true) → wpAnyN P md (o0 :: o1 :: o2 :: o3 :: o4 :: o5 :: o6 :: l).toArray Q S need fuel (listed.setIfInBounds 6 true) a w) → K' a w) → if Region.wanted o6 (yielded (o0 :: o1 :: o2 :: o3 :: o4 :: o5 :: o6 :: l).toArray a.tmps) = true then Oper.wp P o6 a w K' Q else K' (a.put o6.dst undef) w) :
    wpAnyN P md (o0 :: o1 :: o2 :: o3 :: o4 :: o5 :: o6 :: l).toArray Q S need (fuel + 1) listed a w := wpAnyN_one (i := 6) (o := o6) hr rfl hb h
theorem wpAnyN_take_7 {o0 o1 o2 o3 o4 o5 o6 o7 : Oper} {l : List Oper} {v : Value} {fuel : Nat} {listed : Array Bool} {a : Act} {w : World} (hs : Region.noSelect (o0 :: o1 :: o2 :: o3 :: o4 :: o5 :: o6 :: o7 :: l).toArray = true) (hf : Region.free md (o0 :: o1 :: o2 :: o3 :: o4 :: o5 :: o6 :: o7 :: l).toArray listed 7 = true) (hr : (Region.ready md (o0 :: o1 :: o2 :: o3 :: o4 :: o5 :: o6 :: o7 :: l).toArray listed).contains 7 = true)
    (hn : ((List.range (o0 :: o1 :: o2 :: o3 :: o4 :: o5 :: o6 :: o7 :: l).toArray.size).all fun j => need j || j == 7 || waitsFor md (o0 :: o1 :: o2 :: o3 :: o4 :: o5 :: o6 :: o7 :: l).toArray 7 (o0 :: o1 :: o2 :: o3 :: o4 :: o5 :: o6 :: o7 :: l).toArray.size j) = true) (hQ : ∀ c a w, Q (.panic c) (a.put o7.dst v) w → Q (.panic c) a w) (hy : YieldsIf P (o0 :: o1 :: o2 :: o3 :: o4 :: o5 :: o6 :: o7 :: l).toArray S o7 v a) (hS : S w) (hb : ShutBack md (o0 :: o1 :: o2 :: o3 :: o4 :: o5 :: o6 :: o7 :: l).toArray listed)
    (h : ShutBack md (o0 :: o1 :: o2 :: o3 :: o4 :: o5 :: o6 :: o7 :: l).toArray (listed.setIfInBounds 7 true) → wpAnyN P md (o0 :: o1 :: o2 :: o3 :: o4 :: o5 :: o6 :: o7 :: l).toArray Q S need fuel (listed.setIfInBounds 7 true) (a.put o7.dst v) w) : wpAnyN P md (o0 :: o1 :: o2 :: o3 :: o4 :: o5 :: o6 :: o7 :: l).toArray Q S need (fuel + 1) listed a w :=
  wpAnyN_take (i := 7) (oi := o7) rfl hs hf hr hn hQ hy hS hb h
theorem wpAnyN_one_7 {o0 o1 o2 o3 o4 o5 o6 o7 : Oper} {l : List Oper} {fuel : Nat} {listed : Array Bool} {a : Act} {w : World} (hr : Region.ready md (o0 :: o1 :: o2 :: o3 :: o4 :: o5 :: o6 :: o7 :: l).toArray listed = [7]) (hb : ShutBack md (o0 :: o1 :: o2 :: o3 :: o4 :: o5 :: o6 :: o7 :: l).toArray listed)
    (h : ∀ K' : Act → World → Prop, Shut (∀ a w, (need 7 = true → S w) → ((need 7 = true → S w) → ShutBack md (o0 :: o1 :: o2 :: o3 :: o4 :: o5 :: o6 :: o7 :: l).toArray (listed.setIfInBounds 7 true) → wpAnyN P md (o0 :: o1 :: o2 :: o3 :: o4 :: o5 :: o6 :: o7 :: l).toArray Q S need fuel (listed.setIfInBounds 7 true) a w) → K' a w) → if Region.wanted o7 (yielded (o0 :: o1 :: o2 :: o3 :: o4 :: o5 :: o6 :: o7 :: l).toArray a.tmps) = true then Oper.wp P o7 a w K' Q else K' (a.put o7.dst undef) w) :
    wpAnyN P md (o0 :: o1 :: o2 :: o3 :: o4 :: o5 :: o6 :: o7 :: l).toArray Q S need (fuel + 1) listed a w := wpAnyN_one (i := 7) (o := o7) hr rfl hb h
theorem wpAnyN_take_8 {o0 o1 o2 o3 o4 o5 o6 o7 o8 : Oper} {l : List Oper} {v : Value} {fuel : Nat} {listed : Array Bool} {a : Act} {w : World} (hs : Region.noSelect (o0 :: o1 :: o2 :: o3 :: o4 :: o5 :: o6 :: o7 :: o8 :: l).toArray = true) (hf : Region.free md (o0 :: o1 :: o2 :: o3 :: o4 :: o5 :: o6 :: o7 :: o8 :: l).toArray listed 8 = true) (hr : (Region.ready md (o0 :: o1 :: o2 :: o3 :: o4 :: o5 :: o6 :: o7 :: o8 :: l).toArray listed).contains 8 = true)
    (hn : ((List.range (o0 :: o1 :: o2 :: o3 :: o4 :: o5 :: o6 :: o7 :: o8 :: l).toArray.size).all fun j => need j || j == 8 || waitsFor md (o0 :: o1 :: o2 :: o3 :: o4 :: o5 :: o6 :: o7 :: o8 :: l).toArray 8 (o0 :: o1 :: o2 :: o3 :: o4 :: o5 :: o6 :: o7 :: o8 :: l).toArray.size j) = true) (hQ : ∀ c a w, Q (.panic c) (a.put o8.dst v) w → Q (.panic c) a w) (hy : YieldsIf P (o0 :: o1 :: o2 :: o3 :: o4 :: o5 :: o6 :: o7 :: o8 :: l).toArray S o8 v a) (hS : S w) (hb : ShutBack md (o0 :: o1 :: o2 :: o3 :: o4 :: o5 :: o6 :: o7 :: o8 :: l).toArray listed)
    (h : ShutBack md (o0 :: o1 :: o2 :: o3 :: o4 :: o5 :: o6 :: o7 :: o8 :: l).toArray (listed.setIfInBounds 8 true) → wpAnyN P md (o0 :: o1 :: o2 :: o3 :: o4 :: o5 :: o6 :: o7 :: o8 :: l).toArray Q S need fuel (listed.setIfInBounds 8 true) (a.put o8.dst v) w) : wpAnyN P md (o0 :: o1 :: o2 :: o3 :: o4 :: o5 :: o6 :: o7 :: o8 :: l).toArray Q S need (fuel + 1) listed a w :=
  wpAnyN_take (i := 8) (oi := o8) rfl hs hf hr hn hQ hy hS hb h
theorem wpAnyN_one_8 {o0 o1 o2 o3 o4 o5 o6 o7 o8 : Oper} {l : List Oper} {fuel : Nat} {listed : Array Bool} {a : Act} {w : World} (hr : Region.ready md (o0 :: o1 :: o2 :: o3 :: o4 :: o5 :: o6 :: o7 :: o8 :: l).toArray listed = [8]) (hb : ShutBack md (o0 :: o1 :: o2 :: o3 :: o4 :: o5 :: o6 :: o7 :: o8 :: l).toArray listed)
    (h : ∀ K' : Act → World → Prop, Shut (∀ a w, (need 8 = true → S w) → ((need 8 = true → S w) → ShutBack md (o0 :: o1 :: o2 :: o3 :: o4 :: o5 :: o6 :: o7 :: o8 :: l).toArray (listed.setIfInBounds 8 true) → wpAnyN P md (o0 :: o1 :: o2 :: o3 :: o4 :: o5 :: o6 :: o7 :: o8 :: l).toArray Q S need fuel (listed.setIfInBounds 8 true) a w) → K' a w) → if Region.wanted o8 (yielded (o0 :: o1 :: o2 :: o3 :: o4 :: o5 :: o6 :: o7 :: o8 :: l).toArray a.tmps) = true then Oper.wp P o8 a w K' Q else K' (a.put o8.dst undef) w) :
    wpAnyN P md (o0 :: o1 :: o2 :: o3 :: o4 :: o5 :: o6 :: o7 :: o8 :: l).toArray Q S need (fuel + 1) listed a w := wpAnyN_one (i := 8) (o := o8) hr rfl hb h
theorem wpAnyN_take_9 {o0 o1 o2 o3 o4 o5 o6 o7 o8 o9 : Oper} {l : List Oper} {v : Value} {fuel : Nat} {listed : Array Bool} {a : Act} {w : World} (hs : Region.noSelect (o0 :: o1 :: o2 :: o3 :: o4 :: o5 :: o6 :: o7 :: o8 :: o9 :: l).toArray = true) (hf : Region.free md (o0 :: o1 :: o2 :: o3 :: o4 :: o5 :: o6 :: o7 :: o8 :: o9 :: l).toArray listed 9 = true) (hr : (Region.ready md (o0 :: o1 :: o2 :: o3 :: o4 :: o5 :: o6 :: o7 :: o8 :: o9 :: l).toArray listed).contains 9 = true)
    (hn : ((List.range (o0 :: o1 :: o2 :: o3 :: o4 :: o5 :: o6 :: o7 :: o8 :: o9 :: l).toArray.size).all fun j => need j || j == 9 || waitsFor md (o0 :: o1 :: o2 :: o3 :: o4 :: o5 :: o6 :: o7 :: o8 :: o9 :: l).toArray 9 (o0 :: o1 :: o2 :: o3 :: o4 :: o5 :: o6 :: o7 :: o8 :: o9 :: l).toArray.size j) = true) (hQ : ∀ c a w, Q (.panic c) (a.put o9.dst v) w → Q (.panic c) a w) (hy : YieldsIf P (o0 :: o1 :: o2 :: o3 :: o4 :: o5 :: o6 :: o7 :: o8 :: o9 :: l).toArray S o9 v a) (hS : S w) (hb : ShutBack md (o0 :: o1 :: o2 :: o3 :: o4 :: o5 :: o6 :: o7 :: o8 :: o9 :: l).toArray listed)
    (h : ShutBack md (o0 :: o1 :: o2 :: o3 :: o4 :: o5 :: o6 :: o7 :: o8 :: o9 :: l).toArray (listed.setIfInBounds 9 true) → wpAnyN P md (o0 :: o1 :: o2 :: o3 :: o4 :: o5 :: o6 :: o7 :: o8 :: o9 :: l).toArray Q S need fuel (listed.setIfInBounds 9 true) (a.put o9.dst v) w) : wpAnyN P md (o0 :: o1 :: o2 :: o3 :: o4 :: o5 :: o6 :: o7 :: o8 :: o9 :: l).toArray Q S need (fuel + 1) listed a w :=
  wpAnyN_take (i := 9) (oi := o9) rfl hs hf hr hn hQ hy hS hb h
theorem wpAnyN_one_9 {o0 o1 o2 o3 o4 o5 o6 o7 o8 o9 : Oper} {l : List Oper} {fuel : Nat} {listed : Array Bool} {a : Act} {w : World} (hr : Region.ready md (o0 :: o1 :: o2 :: o3 :: o4 :: o5 :: o6 :: o7 :: o8 :: o9 :: l).toArray listed = [9]) (hb : ShutBack md (o0 :: o1 :: o2 :: o3 :: o4 :: o5 :: o6 :: o7 :: o8 :: o9 :: l).toArray listed)
    (h : ∀ K' : Act → World → Prop, Shut (∀ a w, (need 9 = true → S w) → ((need 9 = true → S w) → ShutBack md (o0 :: o1 :: o2 :: o3 :: o4 :: o5 :: o6 :: o7 :: o8 :: o9 :: l).toArray (listed.setIfInBounds 9 true) → wpAnyN P md (o0 :: o1 :: o2 :: o3 :: o4 :: o5 :: o6 :: o7 :: o8 :: o9 :: l).toArray Q S need fuel (listed.setIfInBounds 9 true) a w) → K' a w) → if Region.wanted o9 (yielded (o0 :: o1 :: o2 :: o3 :: o4 :: o5 :: o6 :: o7 :: o8 :: o9 :: l).toArray a.tmps) = true then Oper.wp P o9 a w K' Q else K' (a.put o9.dst undef) w) :
    wpAnyN P md (o0 :: o1 :: o2 :: o3 :: o4 :: o5 :: o6 :: o7 :: o8 :: o9 :: l).toArray Q S need (fuel + 1) listed a w := wpAnyN_one (i := 9) (o := o9) hr rfl hb h
theorem wpAnyN_take_10 {o0 o1 o2 o3 o4 o5 o6 o7 o8 o9 o10 : Oper} {l : List Oper} {v : Value} {fuel : Nat} {listed : Array Bool} {a : Act} {w : World} (hs : Region.noSelect (o0 :: o1 :: o2 :: o3 :: o4 :: o5 :: o6 :: o7 :: o8 :: o9 :: o10 :: l).toArray = true) (hf : Region.free md (o0 :: o1 :: o2 :: o3 :: o4 :: o5 :: o6 :: o7 :: o8 :: o9 :: o10 :: l).toArray listed 10 = true) (hr : (Region.ready md (o0 :: o1 :: o2 :: o3 :: o4 :: o5 :: o6 :: o7 :: o8 :: o9 :: o10 :: l).toArray listed).contains 10 = true)
    (hn : ((List.range (o0 :: o1 :: o2 :: o3 :: o4 :: o5 :: o6 :: o7 :: o8 :: o9 :: o10 :: l).toArray.size).all fun j => need j || j == 10 || waitsFor md (o0 :: o1 :: o2 :: o3 :: o4 :: o5 :: o6 :: o7 :: o8 :: o9 :: o10 :: l).toArray 10 (o0 :: o1 :: o2 :: o3 :: o4 :: o5 :: o6 :: o7 :: o8 :: o9 :: o10 :: l).toArray.size j) = true) (hQ : ∀ c a w, Q (.panic c) (a.put o10.dst v) w → Q (.panic c) a w) (hy : YieldsIf P (o0 :: o1 :: o2 :: o3 :: o4 :: o5 :: o6 :: o7 :: o8 :: o9 :: o10 :: l).toArray S o10 v a) (hS : S w) (hb : ShutBack md (o0 :: o1 :: o2 :: o3 :: o4 :: o5 :: o6 :: o7 :: o8 :: o9 :: o10 :: l).toArray listed)
    (h : ShutBack md (o0 :: o1 :: o2 :: o3 :: o4 :: o5 :: o6 :: o7 :: o8 :: o9 :: o10 :: l).toArray (listed.setIfInBounds 10 true) → wpAnyN P md (o0 :: o1 :: o2 :: o3 :: o4 :: o5 :: o6 :: o7 :: o8 :: o9 :: o10 :: l).toArray Q S need fuel (listed.setIfInBounds 10 true) (a.put o10.dst v) w) : wpAnyN P md (o0 :: o1 :: o2 :: o3 :: o4 :: o5 :: o6 :: o7 :: o8 :: o9 :: o10 :: l).toArray Q S need (fuel + 1) listed a w :=
  wpAnyN_take (i := 10) (oi := o10) rfl hs hf hr hn hQ hy hS hb h
theorem wpAnyN_one_10 {o0 o1 o2 o3 o4 o5 o6 o7 o8 o9 o10 : Oper} {l : List Oper} {fuel : Nat} {listed : Array Bool} {a : Act} {w : World} (hr : Region.ready md (o0 :: o1 :: o2 :: o3 :: o4 :: o5 :: o6 :: o7 :: o8 :: o9 :: o10 :: l).toArray listed = [10]) (hb : ShutBack md (o0 :: o1 :: o2 :: o3 :: o4 :: o5 :: o6 :: o7 :: o8 :: o9 :: o10 :: l).toArray listed)
    (h : ∀ K' : Act → World → Prop, Shut (∀ a w, (need 10 = true → S w) → ((need 10 = true → S w) → ShutBack md (o0 :: o1 :: o2 :: o3 :: o4 :: o5 :: o6 :: o7 :: o8 :: o9 :: o10 :: l).toArray (listed.setIfInBounds 10 true) → wpAnyN P md (o0 :: o1 :: o2 :: o3 :: o4 :: o5 :: o6 :: o7 :: o8 :: o9 :: o10 :: l).toArray Q S need fuel (listed.setIfInBounds 10 true) a w) → K' a w) → if Region.wanted o10 (yielded (o0 :: o1 :: o2 :: o3 :: o4 :: o5 :: o6 :: o7 :: o8 :: o9 :: o10 :: l).toArray a.tmps) = true then Oper.wp P o10 a w K' Q else K' (a.put o10.dst undef) w) :
    wpAnyN P md (o0 :: o1 :: o2 :: o3 :: o4 :: o5 :: o6 :: o7 :: o8 :: o9 :: o10 :: l).toArray Q S need (fuel + 1) listed a w := wpAnyN_one (i := 10) (o := o10) hr rfl hb h
theorem wpAnyN_take_11 {o0 o1 o2 o3 o4 o5 o6 o7 o8 o9 o10 o11 : Oper} {l : List Oper} {v : Value} {fuel : Nat} {listed : Array Bool} {a : Act} {w : World} (hs : Region.noSelect (o0 :: o1 :: o2 :: o3 :: o4 :: o5 :: o6 :: o7 :: o8 :: o9 :: o10 :: o11 :: l).toArray = true) (hf : Region.free md (o0 :: o1 :: o2 :: o3 :: o4 :: o5 :: o6 :: o7 :: o8 :: o9 :: o10 :: o11 :: l).toArray listed 11 = true) (hr : (Region.ready md (o0 :: o1 :: o2 :: o3 :: o4 :: o5 :: o6 :: o7 :: o8 :: o9 :: o10 :: o11 :: l).toArray listed).contains 11 = true)
    (hn : ((List.range (o0 :: o1 :: o2 :: o3 :: o4 :: o5 :: o6 :: o7 :: o8 :: o9 :: o10 :: o11 :: l).toArray.size).all fun j => need j || j == 11 || waitsFor md (o0 :: o1 :: o2 :: o3 :: o4 :: o5 :: o6 :: o7 :: o8 :: o9 :: o10 :: o11 :: l).toArray 11 (o0 :: o1 :: o2 :: o3 :: o4 :: o5 :: o6 :: o7 :: o8 :: o9 :: o10 :: o11 :: l).toArray.size j) = true) (hQ : ∀ c a w, Q (.panic c) (a.put o11.dst v) w → Q (.panic c) a w) (hy : YieldsIf P (o0 :: o1 :: o2 :: o3 :: o4 :: o5 :: o6 :: o7 :: o8 :: o9 :: o10 :: o11 :: l).toArray S o11 v a) (hS : S w) (hb : ShutBack md (o0 :: o1 :: o2 :: o3 :: o4 :: o5 :: o6 :: o7 :: o8 :: o9 :: o10 :: o11 :: l).toArray listed)
    (h : ShutBack md (o0 :: o1 :: o2 :: o3 :: o4 :: o5 :: o6 :: o7 :: o8 :: o9 :: o10 :: o11 :: l).toArray (listed.setIfInBounds 11 true) → wpAnyN P md (o0 :: o1 :: o2 :: o3 :: o4 :: o5 :: o6 :: o7 :: o8 :: o9 :: o10 :: o11 :: l).toArray Q S need fuel (listed.setIfInBounds 11 true) (a.put o11.dst v) w) : wpAnyN P md (o0 :: o1 :: o2 :: o3 :: o4 :: o5 :: o6 :: o7 :: o8 :: o9 :: o10 :: o11 :: l).toArray Q S need (fuel + 1) listed a w :=
  wpAnyN_take (i := 11) (oi := o11) rfl hs hf hr hn hQ hy hS hb h
theorem wpAnyN_one_11 {o0 o1 o2 o3 o4 o5 o6 o7 o8 o9 o10 o11 : Oper} {l : List Oper} {fuel : Nat} {listed : Array Bool} {a : Act} {w : World} (hr : Region.ready md (o0 :: o1 :: o2 :: o3 :: o4 :: o5 :: o6 :: o7 :: o8 :: o9 :: o10 :: o11 :: l).toArray listed = [11]) (hb : ShutBack md (o0 :: o1 :: o2 :: o3 :: o4 :: o5 :: o6 :: o7 :: o8 :: o9 :: o10 :: o11 :: l).toArray listed)
    (h : ∀ K' : Act → World → Prop, Shut (∀ a w, (need 11 = true → S w) → ((need 11 = true → S w) → ShutBack md (o0 :: o1 :: o2 :: o3 :: o4 :: o5 :: o6 :: o7 :: o8 :: o9 :: o10 :: o11 :: l).toArray (listed.setIfInBounds 11 true) → wpAnyN P md (o0 :: o1 :: o2 :: o3 :: o4 :: o5 :: o6 :: o7 :: o8 :: o9 :: o10 :: o11 :: l).toArray Q S need fuel (listed.setIfInBounds 11 true) a w) → K' a w) → if Region.wanted o11 (yielded (o0 :: o1 :: o2 :: o3 :: o4 :: o5 :: o6 :: o7 :: o8 :: o9 :: o10 :: o11 :: l).toArray a.tmps) = true then Oper.wp P o11 a w K' Q else K' (a.put o11.dst undef) w) :
    wpAnyN P md (o0 :: o1 :: o2 :: o3 :: o4 :: o5 :: o6 :: o7 :: o8 :: o9 :: o10 :: o11 :: l).toArray Q S need (fuel + 1) listed a w := wpAnyN_one (i := 11) (o := o11) hr rfl hb h
theorem wpAnyN_take_12 {o0 o1 o2 o3 o4 o5 o6 o7 o8 o9 o10 o11 o12 : Oper} {l : List Oper} {v : Value} {fuel : Nat} {listed : Array Bool} {a : Act} {w : World} (hs : Region.noSelect (o0 :: o1 :: o2 :: o3 :: o4 :: o5 :: o6 :: o7 :: o8 :: o9 :: o10 :: o11 :: o12 :: l).toArray = true) (hf : Region.free md (o0 :: o1 :: o2 :: o3 :: o4 :: o5 :: o6 :: o7 :: o8 :: o9 :: o10 :: o11 :: o12 :: l).toArray listed 12 = true) (hr : (Region.ready md (o0 :: o1 :: o2 :: o3 :: o4 :: o5 :: o6 :: o7 :: o8 :: o9 :: o10 :: o11 :: o12 :: l).toArray listed).contains 12 = true)
    (hn : ((List.range (o0 :: o1 :: o2 :: o3 :: o4 :: o5 :: o6 :: o7 :: o8 :: o9 :: o10 :: o11 :: o12 :: l).toArray.size).all fun j => need j || j == 12 || waitsFor md (o0 :: o1 :: o2 :: o3 :: o4 :: o5 :: o6 :: o7 :: o8 :: o9 :: o10 :: o11 :: o12 :: l).toArray 12 (o0 :: o1 :: o2 :: o3 :: o4 :: o5 :: o6 :: o7 :: o8 :: o9 :: o10 :: o11 :: o12 :: l).toArray.size j) = true) (hQ : ∀ c a w, Q (.panic c) (a.put o12.dst v) w → Q (.panic c) a w) (hy : YieldsIf P (o0 :: o1 :: o2 :: o3 :: o4 :: o5 :: o6 :: o7 :: o8 :: o9 :: o10 :: o11 :: o12 :: l).toArray S o12 v a) (hS : S w) (hb : ShutBack md (o0 :: o1 :: o2 :: o3 :: o4 :: o5 :: o6 :: o7 :: o8 :: o9 :: o10 :: o11 :: o12 :: l).toArray listed)
    (h : ShutBack md (o0 :: o1 :: o2 :: o3 :: o4 :: o5 :: o6 :: o7 :: o8 :: o9 :: o10 :: o11 :: o12 :: l).toArray (listed.setIfInBounds 12 true) → wpAnyN P md (o0 :: o1 :: o2 :: o3 :: o4 :: o5 :: o6 :: o7 :: o8 :: o9 :: o10 :: o11 :: o12 :: l).toArray Q S need fuel (listed.setIfInBounds 12 true) (a.put o12.dst v) w) : wpAnyN P md (o0 :: o1 :: o2 :: o3 :: o4 :: o5 :: o6 :: o7 :: o8 :: o9 :: o10 :: o11 :: o12 :: l).toArray Q S need (fuel + 1) listed a w :=
  wpAnyN_take (i := 12) (oi := o12) rfl hs hf hr hn hQ hy hS hb h
theorem wpAnyN_one_12 {o0 o1 o2 o3 o4 o5 o6 o7 o8 o9 o10 o11 o12 : Oper} {l : List Oper} {fuel : Nat} {listed : Array Bool} {a : Act} {w : World} (hr : Region.ready md (o0 :: o1 :: o2 :: o3 :: o4 :: o5 :: o6 :: o7 :: o8 :: o9 :: o10 :: o11 :: o12 :: l).toArray listed = [12]) (hb : ShutBack md (o0 :: o1 :: o2 :: o3 :: o4 :: o5 :: o6 :: o7 :: o8 :: o9 :: o10 :: o11 :: o12 :: l).toArray listed)
    (h : ∀ K' : Act → World → Prop, Shut (∀ a w, (need 12 = true → S w) → ((need 12 = true → S w) → ShutBack md (o0 :: o1 :: o2 :: o3 :: o4 :: o5 :: o6 :: o7 :: o8 :: o9 :: o10 :: o11 :: o12 :: l).toArray (listed.setIfInBounds 12 true) → wpAnyN P md (o0 :: o1 :: o2 :: o3 :: o4 :: o5 :: o6 :: o7 :: o8 :: o9 :: o10 :: o11 :: o12 :: l).toArray Q S need fuel (listed.setIfInBounds 12 true) a w) → K' a w) → if Region.wanted o12 (yielded (o0 :: o1 :: o2 :: o3 :: o4 :: o5 :: o6 :: o7 :: o8 :: o9 :: o10 :: o11 :: o12 :: l).toArray a.tmps) = true then Oper.wp P o12 a w K' Q else K' (a.put o12.dst undef) w) :
    wpAnyN P md (o0 :: o1 :: o2 :: o3 :: o4 :: o5 :: o6 :: o7 :: o8 :: o9 :: o10 :: o11 :: o12 :: l).toArray Q S need (fuel + 1) listed a w := wpAnyN_one (i := 12) (o := o12) hr rfl hb h
theorem wpAnyN_take_13 {o0 o1 o2 o3 o4 o5 o6 o7 o8 o9 o10 o11 o12 o13 : Oper} {l : List Oper} {v : Value} {fuel : Nat} {listed : Array Bool} {a : Act} {w : World} (hs : Region.noSelect (o0 :: o1 :: o2 :: o3 :: o4 :: o5 :: o6 :: o7 :: o8 :: o9 :: o10 :: o11 :: o12 :: o13 :: l).toArray = true) (hf : Region.free md (o0 :: o1 :: o2 :: o3 :: o4 :: o5 :: o6 :: o7 :: o8 :: o9 :: o10 :: o11 :: o12 :: o13 :: l).toArray listed 13 = true) (hr : (Region.ready md (o0 :: o1 :: o2 :: o3 :: o4 :: o5 :: o6 :: o7 :: o8 :: o9 :: o10 :: o11 :: o12 :: o13 :: l).toArray listed).contains 13 = true)
    (hn : ((List.range (o0 :: o1 :: o2 :: o3 :: o4 :: o5 :: o6 :: o7 :: o8 :: o9 :: o10 :: o11 :: o12 :: o13 :: l).toArray.size).all fun j => need j || j == 13 || waitsFor md (o0 :: o1 :: o2 :: o3 :: o4 :: o5 :: o6 :: o7 :: o8 :: o9 :: o10 :: o11 :: o12 :: o13 :: l).toArray 13 (o0 :: o1 :: o2 :: o3 :: o4 :: o5 :: o6 :: o7 :: o8 :: o9 :: o10 :: o11 :: o12 :: o13 :: l).toArray.size j) = true) (hQ : ∀ c a w, Q (.panic c) (a.put o13.dst v) w → Q (.panic c) a w) (hy : YieldsIf P (o0 :: o1 :: o2 :: o3 :: o4 :: o5 :: o6 :: o7 :: o8 :: o9 :: o10 :: o11 :: o12 :: o13 :: l).toArray S o13 v a) (hS : S w) (hb : ShutBack md (o0 :: o1 :: o2 :: o3 :: o4 :: o5 :: o6 :: o7 :: o8 :: o9 :: o10 :: o11 :: o12 :: o13 :: l).toArray listed)
    (h : ShutBack md (o0 :: o1 :: o2 :: o3 :: o4 :: o5 :: o6 :: o7 :: o8 :: o9 :: o10 :: o11 :: o12 :: o13 :: l).toArray (listed.setIfInBounds 13 true) → wpAnyN P md (o0 :: o1 :: o2 :: o3 :: o4 :: o5 :: o6 :: o7 :: o8 :: o9 :: o10 :: o11 :: o12 :: o13 :: l).toArray Q S need fuel (listed.setIfInBounds 13 true) (a.put o13.dst v) w) : wpAnyN P md (o0 :: o1 :: o2 :: o3 :: o4 :: o5 :: o6 :: o7 :: o8 :: o9 :: o10 :: o11 :: o12 :: o13 :: l).toArray Q S need (fuel + 1) listed a w :=
  wpAnyN_take (i := 13) (oi := o13) rfl hs hf hr hn hQ hy hS hb h
theorem wpAnyN_one_13 {o0 o1 o2 o3 o4 o5 o6 o7 o8 o9 o10 o11 o12 o13 : Oper} {l : List Oper} {fuel : Nat} {listed : Array Bool} {a : Act} {w : World} (hr : Region.ready md (o0 :: o1 :: o2 :: o3 :: o4 :: o5 :: o6 :: o7 :: o8 :: o9 :: o10 :: o11 :: o12 :: o13 :: l).toArray listed = [13]) (hb : ShutBack md (o0 :: o1 :: o2 :: o3 :: o4 :: o5 :: o6 :: o7 :: o8 :: o9 :: o10 :: o11 :: o12 :: o13 :: l).toArray listed)
    (h : ∀ K' : Act → World → Prop, Shut (∀ a w, (need 13 = true → S w) → ((need 13 = true → S w) → ShutBack md (o0 :: o1 :: o2 :: o3 :: o4 :: o5 :: o6 :: o7 :: o8 :: o9 :: o10 :: o11 :: o12 :: o13 :: l).toArray (listed.setIfInBounds 13 true) → wpAnyN P md (o0 :: o1 :: o2 :: o3 :: o4 :: o5 :: o6 :: o7 :: o8 :: o9 :: o10 :: o11 :: o12 :: o13 :: l).toArray Q S need fuel (listed.setIfInBounds 13 true) a w) → K' a w) → if Region.wanted o13 (yielded (o0 :: o1 :: o2 :: o3 :: o4 :: o5 :: o6 :: o7 :: o8 :: o9 :: o10 :: o11 :: o12 :: o13 :: l).toArray a.tmps) = true then Oper.wp P o13 a w K' Q else K' (a.put o13.dst undef) w) :
    wpAnyN P md (o0 :: o1 :: o2 :: o3 :: o4 :: o5 :: o6 :: o7 :: o8 :: o9 :: o10 :: o11 :: o12 :: o13 :: l).toArray Q S need (fuel + 1) listed a w := wpAnyN_one (i := 13) (o := o13) hr rfl hb h
end
end Go.Proofs.Ytljcpgeggbbmfaa
