/-
  Lines: plain, and the walks of package show (layer 13).
-/
import Derived.Test.YtljcpgeggbbmfaaIT
import Derived.Lib.AppendStr
import Derived.Lib.ConvBytes
import Derived.Lib.UnsafeStr
import Derived.Laws.IdiomStrings
import Derived.Test.YtljcpgeggbbmfaaText
import Derived.WalkArith
import Derived.Shelf.Strings.Builder1
namespace Go.Proofs.Ytljcpgeggbbmfaa
set_option linter.unusedVariables false
set_option linter.unusedSimpArgs false
open Go.RowKit
abbrev bC (l : List UInt8) : List Value := Lib.byteCells l
/-- the slice v holds the bytes l, in a row from block B on; none of its spare cells is frozen. -/
def OwnB (w : World) (B : Nat) (v : Value) (l : List UInt8) : Prop :=
  ∃ (g cap : Nat) (cur : Array Value) (fz : Nat × Nat), v = .slice (some ⟨g, 0, none⟩) l.length cap ∧ B ≤ g ∧ w.heap[g]? = some (.cells cur 5 fz) ∧ (∀ j, l.length ≤ j → j < cur.size → ¬ (fz.1 ≤ j ∧ j < fz.2)) ∧ l.length ≤ cap ∧ cap ≤ maxLen ∧ cur.size = cap ∧ cur.toList.take l.length = bC l
theorem info_u8 : (Try.prog.info? 5).map (fun i => (i.zero, i.size, i.bytes)) = some (some (.int .u8 0), 1, 1) := by kernel_rfl
/-- storing cells of which none is frozen. -/
theorem storeB (P : Program) (g o : Nat) (t : TypeId) (fz : Nat × Nat) : ∀ (vs : List Value) (i : Nat) (cur : Array Value) (w : World), w.heap[g]? = some (.cells cur t fz) → (∀ j, o + i ≤ j → j < cur.size → ¬ (fz.1 ≤ j ∧ j < fz.2)) → o + i + vs.length ≤ cur.size → (∀ v ∈ vs, v.oneCell' = true) →
    (storeCells ⟨g, o, none⟩ vs i).run P w = .ok () (w.setRow g (cur.toList.take (o + i) ++ vs ++ cur.toList.drop (o + i + vs.length)).toArray)
  | [], i, cur, w, hg, _, _, _ => by
    simp only [storeCells, List.append_nil, List.length_nil, Nat.add_zero, List.take_append_drop, Array.toArray_toList]
    rw [setRow_self w g cur t fz hg]
    rfl
  | v :: vs, i, cur, w, hg, hfz, hl, h1 => by
    have hin : o + i < cur.size := by simp at hl; omega
    have hadd : (⟨g, o, none⟩ : Addr).add i = ⟨g, o + i, none⟩ := by unfold Addr.add; split <;> simp_all
    have hcell : w.cell? ⟨g, o + i, none⟩ = some cur[o + i] := by simp [World.cell?, hg, hin]
    have hfro : w.frozen? ⟨g, o + i, none⟩ = false := by
      have h0 := hfz (o + i) (Nat.le_refl _) hin
      obtain ⟨lo, up⟩ := fz
      simp only [World.frozen?, hg, Bool.and_eq_false_iff, decide_eq_false_iff_not]
      dsimp only at h0
      omega
    have hst : (store ((⟨g, o, none⟩ : Addr).add i) v).run P w = .ok () (w.setRow g (cur.setIfInBounds (o + i) v)) := by
      rw [hadd, run_store P w _ v _ (h1 v (by simp)), hcell]
      simp [hfro, setCell_eq_setRow w g (o + i) cur t fz v hg]
    have ih := storeB P g o t fz vs (i + 1) (cur.setIfInBounds (o + i) v) (w.setRow g (cur.setIfInBounds (o + i) v)) (setRow_heap w g cur _ t _ hg) (fun j hj hj2 => hfz j (by omega) (by simpa using hj2)) (by simp at hl ⊢; omega) (fun x hx => h1 x (by simp [hx]))
    simp only [storeCells, Sem.run_bind, hst, Result.andThen_ok, ih, setRow_setRow]
    congr 3
    have e := list_seg_step cur.toList (o + i) v vs (by simp at hl ⊢; omega)
    simpa [Array.toList_setIfInBounds, Nat.add_assoc] using e
theorem bC_len (l : List UInt8) : (bC l).length = l.length := Lib.byteCells_length l
theorem bC_one (l : List UInt8) : ∀ v ∈ bC l, v.oneCell' = true := by
  intro v hv
  obtain ⟨b, _, rfl⟩ := List.mem_map.1 hv
  rfl
theorem OwnB.cells {w : World} {B : Nat} {l : List UInt8} {g cap : Nat} (h : OwnB w B (.slice (some ⟨g, 0, none⟩) l.length cap) l) : ∀ j u, (bC l)[j]? = some u → w.cell? ((⟨g, 0, none⟩ : Addr).add j) = some u := by
  obtain ⟨g', cap', cur, fz, e, _, hg, _, _, _, _, ht⟩ := h
  injection e with e1 e2 e3
  injection e1 with e1
  injection e1 with e1
  subst e1
  intro j u hj
  have hjl : j < l.length := by
    have := (List.getElem?_eq_some_iff.1 hj).1
    rwa [bC_len] at this
  rw [← ht, List.getElem?_take_of_lt hjl] at hj
  have ha : (⟨g, 0, none⟩ : Addr).add j = ⟨g, j, none⟩ := by unfold Addr.add; by_cases hz : j = 0 <;> simp [hz]
  rw [ha]
  unfold World.cell?
  rw [hg]
  dsimp only
  rw [← hj]; simp
/-- the row that an append leaves where there is room. -/
theorem OwnB.room {w : World} {B g cap : Nat} {cur : Array Value} {fz : Nat × Nat} {l k : List UInt8} (hB : B ≤ g) (hg : w.heap[g]? = some (.cells cur 5 fz)) (hfz : ∀ j, l.length ≤ j → j < cur.size → ¬ (fz.1 ≤ j ∧ j < fz.2)) (hc : l.length + k.length ≤ cap) (hm : cap ≤ maxLen) (hs : cur.size = cap) (ht : cur.toList.take l.length = bC l) :
    OwnB (w.setRow g (cur.toList.take l.length ++ bC k ++ cur.toList.drop (l.length + k.length)).toArray) B (.slice (some ⟨g, 0, none⟩) (l.length + k.length) cap) (l ++ k) := by
  refine ⟨g, cap, _, fz, by rw [List.length_append], hB, setRow_heap w g cur _ _ _ hg, ?_, by rw [List.length_append]; exact hc, hm, ?_, ?_⟩
  · intro j h1 h2
    rw [List.length_append] at h1
    refine hfz j (by omega) ?_
    simp only [List.size_toArray, List.length_append, List.length_take, List.length_drop, Array.length_toList, bC_len] at h2
    omega
  · simp only [List.size_toArray, List.length_append, List.length_take, List.length_drop, Array.length_toList, bC_len]
    omega
  · rw [ht, show bC (l ++ k) = bC l ++ bC k from Lib.byteCells_append l k, List.length_append]
    have : l.length + k.length = (bC l ++ bC k).length := by rw [List.length_append, bC_len, bC_len]
    rw [this]
    exact List.take_left
theorem OwnB.grown (w : World) (B old : Nat) (l k : List UInt8) (hB : B ≤ w.heap.size) (hm : l.length + k.length ≤ maxLen) :
    OwnB (w.drew.alloc (.cells ((bC l).toArray ++ (bC k).toArray ++ Builtin.zeroCells (Value.int .u8 0).cells (grownCap w (l.length + k.length) old 5 - (l.length + k.length))) 5)) B (.slice (some ⟨w.heap.size, 0, none⟩) (l.length + k.length) (grownCap w (l.length + k.length) old 5)) (l ++ k) := by
  have hge := grownCap_ge w (l.length + k.length) old 5
  refine ⟨w.heap.size, _, _, (0, 0), by rw [List.length_append], hB, heap_alloc_new w.drew _, fun j _ _ h => by dsimp only at h; omega, by rw [List.length_append]; exact hge, grownCap_le_maxLen w _ old _ hm, ?_, ?_⟩
  · have hz1 : (Value.int IntKind.u8 0).cells.size = 1 := rfl
    simp only [Array.size_append, List.size_toArray, size_zeroCells, hz1, bC_len]
    omega
  · rw [show bC (l ++ k) = bC l ++ bC k from Lib.byteCells_append l k, List.length_append]
    simp only [Array.toList_append]
    have : l.length + k.length = (bC l ++ bC k).length := by rw [List.length_append, bC_len, bC_len]
    rw [this]
    exact List.take_left
theorem grown_row (w : World) (g n cap : Nat) (cs : Array Value) : w.grownBy (w.setRow g cs) (Value.slice (some ⟨g, 0, none⟩) n cap).ownBlock :=
  ⟨rfl, rfl, rfl, by simp, fun k _ hk => setRow_other w g k _ (fun e => hk (by simp [Value.ownBlock, e]))⟩
theorem grown_new (w : World) (o : Obj) (r : Option Nat) : w.grownBy (w.drew.alloc o) r := ⟨rfl, rfl, rfl, by simp, fun k hk _ => heap_alloc_old w.drew o hk⟩
/-- appending a string. -/
theorem appB_str (w : World) (B : Nat) (v : Value) (l : List UInt8) (ty : TypeId) (h : OwnB w B v l) (s : ByteArray) (hb : l.length + s.size ≤ 1000000000) (hB : B ≤ w.heap.size) :
    ∃ v' w', (Builtin.append_ #[38, 9] ty #[v, .string s]).run Try.prog w = .ok v' w' ∧ OwnB w' B v' (l ++ L s) ∧ w.grownBy w' v.ownBlock := by
  obtain ⟨i, hi, he⟩ := Option.map_eq_some_iff.1 info_u8
  injection he with hz he
  injection he with hs1 hby
  have hown := h
  obtain ⟨g, cap, cur, fz, rfl, hBg, hg, hfz, hc, hm, hs, ht⟩ := h
  have hk : (L s).length = s.size := rfl
  by_cases hroom : l.length + s.size ≤ cap
  · have hf := Lib.run_firstCells_string (P := Try.prog) w 1 s
    have hst := storeB Try.prog g l.length 5 fz (Lib.strCells s) 0 cur w hg (by simpa using hfz) (by rw [Lib.strCells_length]; omega) (Lib.strCells_oneCell s)
    simp only [Nat.add_zero, Lib.strCells_length] at hst
    refine ⟨.slice (some ⟨g, 0, none⟩) (l.length + (L s).length) cap, w.setRow g (cur.toList.take l.length ++ bC (L s) ++ cur.toList.drop (l.length + (L s).length)).toArray, ?_, OwnB.room hBg hg hfz (by omega) hm hs ht, grown_row _ _ _ _ _⟩
    simp [Builtin.append_, run_underlying Try.underlying38, run_underlying Try.underlying9, sizeOf, typeInfo, hi, hs1, Builtin.lenOf, hroom, hf, Addr.add_lit, hst]
    rfl
  · have hr := Lib.run_append_grow_string (P := Try.prog) w 38 9 ty 5 i (.int .u8 0) Try.underlying38 Try.underlying9 hi hz ⟨g, 0, none⟩ l.length cap (bC l) (by rw [hs1, bC_len, Nat.mul_one]) hown.cells s (by omega) (by omega) (by rw [hby]; exact growslice_fits (by omega) (by omega))
    exact ⟨_, _, hr, OwnB.grown w B cap l (L s) hB (by unfold maxLen; omega), grown_new _ _ _⟩
/-- appending a byte that lies in memory. -/
theorem appB_one (w : World) (B : Nat) (v : Value) (l : List UInt8) (ty : TypeId) (h : OwnB w B v l) (ad : Addr) (c : UInt8) (hc : w.cell? ad = some (.int .u8 c.toNat)) (hb : l.length + 1 ≤ 1000000000) (hB : B ≤ w.heap.size) :
    ∃ v' w', (Builtin.append_ #[38, 38] ty #[v, .slice (some ad) 1 1]).run Try.prog w = .ok v' w' ∧ OwnB w' B v' (l ++ [c]) ∧ w.grownBy w' v.ownBlock := by
  obtain ⟨i, hi, he⟩ := Option.map_eq_some_iff.1 info_u8
  injection he with hz he
  injection he with hs1 hby
  have hown := h
  obtain ⟨g, cap, cur, fz, rfl, hBg, hg, hfz, hcp, hm, hs, ht⟩ := h
  have hnews : ∀ j u, (bC [c])[j]? = some u → w.cell? (ad.add j) = some u := by
    intro j u hj
    have h0 : j = 0 := by
      have := (List.getElem?_eq_some_iff.1 hj).1
      rw [bC_len] at this
      simpa using this
    subst h0
    have hu : Value.int .u8 (c.toNat : Int) = u := by simpa [bC, Lib.byteCells] using hj
    rw [← hu]
    have : ad.add 0 = ad := by unfold Addr.add; simp
    rw [this]; exact hc
  by_cases hroom : l.length + 1 ≤ cap
  · have hf := run_firstCells_some (P := Try.prog) w 1 1 ad 1 1 (bC [c]) rfl hnews
    have hst := storeB Try.prog g l.length 5 fz (bC [c]) 0 cur w hg (by simpa using hfz) (by rw [bC_len]; simp; omega) (bC_one _)
    simp only [Nat.add_zero, bC_len] at hst
    refine ⟨.slice (some ⟨g, 0, none⟩) (l.length + [c].length) cap, w.setRow g (cur.toList.take l.length ++ bC [c] ++ cur.toList.drop (l.length + [c].length)).toArray, ?_, OwnB.room hBg hg hfz hroom hm hs ht, grown_row _ _ _ _ _⟩
    simp [Builtin.append_, run_underlying Try.underlying38, sizeOf, typeInfo, hi, hs1, Builtin.lenOf, hroom, hf, Addr.add_lit]
    simp at hst
    rw [hst]
    rfl
  · have hr := run_append_grow (P := Try.prog) w 38 ty 5 i (.int .u8 0) Try.underlying38 hi hz ⟨g, 0, none⟩ l.length cap (bC l) (by rw [hs1, bC_len, Nat.mul_one]) hown.cells ad 1 1 (bC [c]) (by rw [hs1]; rfl) hnews (by omega) (by omega) (by rw [hby]; exact growslice_fits (by omega) (by omega))
    exact ⟨_, _, hr, OwnB.grown w B cap l [c] hB (by unfold maxLen; simp; omega), grown_new _ _ _⟩
section
variable {w : World} {ops : Array Oper} {rest : List Oper} {o : Oper} {a : Act} {Q : Exit → Act → World → Prop}
theorem wpB_str (hgd : o.guard = none) (sl x : Operand) (ho : o.op = .call { callee := .builtin .append, args := #[sl, x], argTypes := #[38, 9] }) (B : Nat) (v : Value) (l : List UInt8) (hs : a.eval sl = v) (h : OwnB w B v l) (s : ByteArray) (hx : a.eval x = .string s) (hb : l.length + s.size ≤ 1000000000) (hB : B ≤ w.heap.size)
    (K : ∀ v' w', OwnB w' B v' (l ++ L s) → w.grownBy w' v.ownBlock → wpList Try.prog ops Q rest (a.put o.dst v') w') : wpList Try.prog ops Q (o :: rest) a w := by
  refine wpList_plain hgd fun K0 hK => ?_
  obtain ⟨v', w', hr, h2, h3⟩ := appB_str w B v l o.type h s hb hB
  unfold Oper.wp execOp
  simp only [ho, resolve, invoke, builtin, Sem.run_bind, Sem.run_pure, Result.andThen_ok, List.map_toArray, List.map_cons, List.map_nil, hs, hx, hr]
  exact hK _ _ (K v' w' h2 h3)
theorem wpB_one (hgd : o.guard = none) (sl x : Operand) (ho : o.op = .call { callee := .builtin .append, args := #[sl, x], argTypes := #[38, 38] }) (B : Nat) (v : Value) (l : List UInt8) (hs : a.eval sl = v) (h : OwnB w B v l) (ad : Addr) (c : UInt8) (hx : a.eval x = .slice (some ad) 1 1) (hc : w.cell? ad = some (.int .u8 c.toNat)) (hb : l.length + 1 ≤ 1000000000) (hB : B ≤ w.heap.size)
    (K : ∀ v' w', OwnB w' B v' (l ++ [c]) → w.grownBy w' v.ownBlock → wpList Try.prog ops Q rest (a.put o.dst v') w') : wpList Try.prog ops Q (o :: rest) a w := by
  refine wpList_plain hgd fun K0 hK => ?_
  obtain ⟨v', w', hr, h2, h3⟩ := appB_one w B v l o.type h ad c hc hb hB
  unfold Oper.wp execOp
  simp only [ho, resolve, invoke, builtin, Sem.run_bind, Sem.run_pure, Result.andThen_ok, List.map_toArray, List.map_cons, List.map_nil, hs, hx, hr]
  exact hK _ _ (K v' w' h2 h3)
end
theorem OwnB.below {w w' : World} {B : Nat} {v : Value} {l : List UInt8} (h : OwnB w B v l) (hb : Below w.heap.size w w') : OwnB w' B v l := by
  obtain ⟨g, cap, cur, fz, e, hBg, hg, rest⟩ := h
  exact ⟨g, cap, cur, fz, e, hBg, (hb.block g (heap_lt hg)).trans hg, rest⟩
theorem OwnB.own {w : World} {B : Nat} {v : Value} {l : List UInt8} (h : OwnB w B v l) {k : Nat} (hk : v.ownBlock = some k) : B ≤ k := by
  obtain ⟨g, cap, cur, fz, rfl, hBg, _⟩ := h
  simp [Value.ownBlock] at hk
  omega
theorem OwnB.val {w : World} {B : Nat} {v : Value} {l : List UInt8} (h : OwnB w B v l) : ∃ g cap, v = .slice (some ⟨g, 0, none⟩) l.length cap := by
  obtain ⟨g, cap, cur, fz, rfl, _⟩ := h
  exact ⟨g, cap, rfl⟩
/-- a string's bytes, made anew. -/
theorem OwnB.start (w : World) (s : ByteArray) (hs : s.size ≤ 1000000000) : OwnB (Lib.bytesWorld w 5 s) w.heap.size (.slice (some ⟨w.heap.size, 0, none⟩) s.size (grownCap w s.size 0 5)) (L s) := by
  have hge := grownCap_ge w s.size 0 5
  have hsz : (Lib.bytesCells w 5 s).size = grownCap w s.size 0 5 := by
    unfold Lib.bytesCells
    rw [Array.size_append, Array.size_replicate, Array.size_map, show s.data.size = s.size from rfl]; omega
  refine ⟨w.heap.size, _, _, _, rfl, Nat.le_refl _, Lib.bytesWorld_at_new w 5 s, fun j _ hj h => ?_, hge, grownCap_le_maxLen w _ 0 _ (by unfold maxLen; omega), hsz, ?_⟩
  · dsimp only at h; omega
  · unfold Lib.bytesCells
    rw [Array.toList_append, Array.toList_map]
    have : (L s).length = (s.data.toList.map fun b => Value.int .u8 b.toNat).length := by rw [List.length_map]
    rw [this]
    exact List.take_left
theorem below_bytes (w : World) (s : ByteArray) : Below w.heap.size w (Lib.bytesWorld w 5 s) :=
  ⟨rfl, rfl, rfl, by rw [Lib.bytesWorld_size]; omega, fun k hk => Lib.bytesWorld_at_old w 5 s k hk⟩
theorem conv_bytes (s : ByteArray) (w : World) : (convert 9 38 (.string s)).run Try.prog w = .ok (.slice (some ⟨w.heap.size, 0, none⟩) s.size (grownCap w s.size 0 5)) (Lib.bytesWorld w 5 s) :=
  Lib.run_convert_string_bytes w 9 38 5 s Try.underlying9 Try.underlying38 Try.underlying5
theorem conv_back {w : World} {B g cap : Nat} {l : List UInt8} (h : OwnB w B (.slice (some ⟨g, 0, none⟩) l.length cap) l) : (convert 38 9 (.slice (some ⟨g, 0, none⟩) l.length cap)).run Try.prog w = .ok (.string ⟨l.toArray⟩) w :=
  run_convert_bytes_back (P := Try.prog) w 38 9 5 ⟨g, 0, none⟩ cap l Try.underlying38 Try.underlying5 Try.underlying9 (fun j hj => by
    refine h.cells j _ ?_
    simp [bC, Lib.byteCells, hj])
end Go.Proofs.Ytljcpgeggbbmfaa
namespace Go.Proofs.Ytljcpgeggbbmfaa
set_option linter.unusedVariables false
set_option linter.unusedSimpArgs false
open Go.RowKit
/-- a number more on the line. -/
def stepL (b : List UInt8) (n : Int) : List UInt8 := (if b = [] then [] else b ++ [32]) ++ textV n
def lineF (b : List UInt8) (ns : List Int) : List UInt8 := ns.foldl stepL b
theorem stepL_len (b : List UInt8) (n : Int) : (stepL b n).length ≤ b.length + 21 := by
  have := textV_len n
  unfold stepL
  split
  · simp; omega
  · simp; omega
theorem lineF_snoc (b : List UInt8) (ns : List Int) {k : Nat} (h : k < ns.length) : lineF b (ns.take (k + 1)) = stepL (lineF b (ns.take k)) ns[k] := by
  unfold lineF; rw [List.take_succ_eq_append_getElem h, List.foldl_append]; rfl
theorem lineF_len (ns : List Int) : ∀ b : List UInt8, (lineF b ns).length ≤ b.length + 21 * ns.length := by
  induction ns with
  | nil => intro b; exact Nat.le_refl _
  | cons n ns ih =>
    intro b
    have h1 := ih (stepL b n)
    have h2 := stepL_len b n
    rw [List.length_cons, Nat.mul_succ]
    show (lineF (stepL b n) ns).length ≤ _
    omega
/-- numbers that can be read, as an argument's elements. -/
theorem elems_rd {w : World} {A : Option Addr} {ns : List Int} (h : Rd w A (i64s ns)) (hn : ∀ n ∈ ns, I64 n) : Elems .i64 w A ns := by
  intro k hk
  obtain ⟨b, off, e, hc⟩ := h.num hk
  have hgd : ns.getD k 0 = ns[k] := by rw [List.getD_eq_getElem?_getD, List.getElem?_eq_getElem hk]; rfl
  refine ⟨⟨b, off, none⟩, e, ?_, ?_⟩
  · rw [hgd]
    have ha : (⟨b, off, none⟩ : Addr).add k = ⟨b, off + k, none⟩ := by unfold Addr.add; by_cases hz : k = 0 <;> simp [hz]
    rw [ha]; exact hc
  · rw [hgd]
    have := hn ns[k] (List.getElem_mem hk)
    unfold I64 at this
    exact WalkArith.wf_i64 this
/-- numbers that have just been laid into memory. -/
theorem elems_new (w : World) (T : TypeId) (ns : List Int) (hn : ∀ n ∈ ns, I64 n) : Elems .i64 (w.alloc (.cells (i64s ns).toArray T)) (some ⟨w.heap.size, 0, none⟩) ns :=
  elems_rd (fun _ => ⟨w.heap.size, 0, rfl, fun j u hu => by rw [World.cell?_alloc_new, Nat.zero_add, List.getElem?_toArray]; exact hu⟩) hn
theorem stepL_ne (b : List UInt8) (n : Int) : stepL b n ≠ [] := by
  have := (textV_in n).1
  unfold stepL
  intro h
  exact this (List.append_eq_nil_iff.1 h).2
set_option maxHeartbeats 16000000 in
set_option maxRecDepth 100000 in
theorem line_any (s : ByteArray) (A : Option Addr) (C : Nat) (ns : List Int) (w : World) (hs : s.size ≤ 1000000) (hl : ns.length ≤ 1000000) (HR : Elems .i64 w A ns) :
    Calls Try.prog 23 #[.string s, .slice A ns.length C] w fun e w' => e = .returned (.string ⟨(lineF (L s) ns ++ [10]).toArray⟩) ∧ Below w.heap.size w w' := by
  have hconv := fun w' => conv_bytes s w'
  have hst := Lib.hid (OwnB.start w s (by omega))
  have hb0 := Lib.hid (below_bytes w s)
  have hsz := Lib.hid (fun k => lineF_len (ns.take k) (L s))
  replace HR := Lib.hid HR
  go_enter Try.func23, Try.ntmps23
  go_wp2_with fail
  generalize hw1 : Lib.bytesWorld w 5 s = w1 at *
  replace hw1 := Lib.hid hw1
  clear hconv
  go_loopw [5, 12] (fun v i wr => ∃ k : Nat, k ≤ ns.length ∧ i = .int .i64 k ∧ OwnB wr w.heap.size v (lineF (L s) (ns.take k)) ∧ Below w.heap.size w wr) (fun _ i _ => ns.length - (intOf i).toNat)
  case atStart => exact ⟨0, Nat.zero_le _, rfl, hst.out, hb0.out⟩
  case round =>
    obtain ⟨k, hk, rfl, hO, hb⟩ := hrel
    have k0 : (0 : Int) ≤ (k : Int) := by omega
    have hlen := hsz.out k
    have htk : (ns.take k).length ≤ ns.length := by rw [List.length_take]; omega
    have hLs : (L s).length = s.size := rfl
    have hbz := Lib.hid hb
    by_cases hkl : k < ns.length
    · obtain ⟨ad, rfl, hc, hw⟩ := (HR.out.below hb) k hkl
      have k1 : (k : Int) < (ns.length : Int) := by omega
      have hI := Lib.hid (I64_of hw)
      have HS := lineF_snoc (L s) ns hkl
      have hgd : ns.getD k 0 = ns[k] := by rw [List.getD_eq_getElem?_getD, List.getElem?_eq_getElem hkl]; rfl
      rw [← hgd] at HS
      replace HS := Lib.hid HS
      clear hgd hw
      generalize ns.getD k 0 = n at *
      generalize lineF (L s) (ns.take k) = l at *
      obtain ⟨g, cap, rfl⟩ := hO.val
      have lz : l.length ≤ 30000000 := by omega
      clear hlen htk hb
      by_cases hln : l = []
      · subst hln
        replace hO := Lib.hid hO
        go_wp2_with fail
        refine (text_any n _ hI.out).mono ?_
        rintro e w3 ⟨rfl, hb3⟩
        have hO3 := Lib.hid (hO.out.below hb3)
        have hb4 := Lib.hid (On.go ⟨hbz.out, hbz.out.size⟩ hb3)
        have hsz3 := (textV_len n)
        have hsz4 : ByteArray.size ⟨(textV n).toArray⟩ ≤ 20 := by show (textV n).toArray.size ≤ 20; simpa using hsz3
        clear hb3
        go_wp2_with (at_builtin; refine wpB_str rfl _ _ rfl w.heap.size _ [] rfl hO3.out ⟨(textV n).toArray⟩ rfl (by simp; omega) hb4.out.le ?_; intro v' w4 hO4 hg4)
        have hb5 : Below w.heap.size w w4 := hb4.out.b.grown hg4 hb4.out.le (fun k hk => hO3.out.own hk)
        replace hO4 := Lib.hid hO4
        go_roundw
        case rel => exact ⟨k + 1, by omega, by go_num, by rw [HS.out]; exact hO4.out, hb5⟩
        case measure => simp [intOf]; omega
      · have hpos : (0 : Int) < (l.length : Int) := by
          have := List.length_pos_iff.2 hln
          omega
        have hO1 := Lib.hid (hO.below (below_new wr (.cells #[.int .u8 32] 5)))
        have hcell := Lib.hid (cells_new wr #[.int .u8 32] 5 0 _ rfl)
        have hOn := Lib.hid ((On.mk hbz.out hbz.out.size).alloc (.cells #[.int .u8 32] 5))
        go_wp2_with (at_builtin; refine wpB_one rfl _ _ rfl w.heap.size _ l rfl hO1.out ⟨wr.heap.size, 0, none⟩ 32 rfl hcell.out (by omega) hOn.out.le ?_; intro v2 w2 hO2 hg2)
        have hb2 : Below w.heap.size w w2 := hOn.out.b.grown hg2 hOn.out.le (fun k hk => hO1.out.own hk)
        refine (text_any n _ hI.out).mono ?_
        rintro e w3 ⟨rfl, hb3⟩
        have hO3 := Lib.hid (hO2.below hb3)
        have hb4 := Lib.hid (On.go ⟨hb2, hb2.size⟩ hb3)
        have hsz3 := (textV_len n)
        have hsz4 : ByteArray.size ⟨(textV n).toArray⟩ ≤ 20 := by show (textV n).toArray.size ≤ 20; simpa using hsz3
        clear hb3 hO2 hg2 hO1 hOn hcell
        go_wp2_with (at_builtin; refine wpB_str rfl _ _ rfl w.heap.size _ (l ++ [32]) rfl hO3.out ⟨(textV n).toArray⟩ rfl (by simp; omega) hb4.out.le ?_; intro v' w4 hO4 hg4)
        have hb5 : Below w.heap.size w w4 := hb4.out.b.grown hg4 hb4.out.le (fun k hk => hO3.out.own hk)
        have hS2 : Hid (stepL l n = l ++ [32] ++ L ⟨(textV n).toArray⟩) := Lib.hid (by unfold stepL; rw [if_neg hln])
        replace hO4 := Lib.hid hO4
        go_roundw
        case rel => exact ⟨k + 1, by omega, by go_num, by rw [HS.out, hS2.out]; exact hO4.out, hb5⟩
        case measure => simp [intOf]; omega
    · obtain rfl : k = ns.length := by omega
      rw [List.take_length] at hO hlen
      generalize hl9 : lineF (L s) ns = l at *
      replace hl9 := Lib.hid hl9
      obtain ⟨g, cap, rfl⟩ := hO.val
      have lz : l.length ≤ 30000000 := by omega
      have hO1 := Lib.hid (hO.below (below_new wr (.cells #[.int .u8 10] 5)))
      have hcell := Lib.hid (cells_new wr #[.int .u8 10] 5 0 _ rfl)
      have hOn := Lib.hid ((On.mk hbz.out hbz.out.size).alloc (.cells #[.int .u8 10] 5))
      clear hb hO hlen htk
      go_wp2_with (at_builtin; refine wpB_one rfl _ _ rfl w.heap.size _ l rfl hO1.out ⟨wr.heap.size, 0, none⟩ 10 rfl hcell.out (by omega) hOn.out.le ?_; intro v2 w2 hO2 hg2; obtain ⟨g2, cap2, rfl⟩ := hO2.val; obtain ⟨R, hR⟩ : ∃ R : ByteArray, (⟨(l ++ [10]).toArray⟩ : ByteArray) = R := ⟨_, rfl⟩; have hcv := conv_back hO2; rw [List.length_append, hR, List.length_singleton] at hcv; replace hR := Lib.hid hR)
      have hb2 : Below w.heap.size w w2 := hOn.out.b.grown hg2 hOn.out.le (fun k hk => hO1.out.own hk)
      go_ret
      exact ⟨by rw [hl9.out, hR.out]; rfl, hb2⟩
end Go.Proofs.Ytljcpgeggbbmfaa
namespace Go.Proofs.Ytljcpgeggbbmfaa
set_option linter.unusedVariables false
set_option linter.unusedSimpArgs false
open Go.RowKit
theorem line_new (s R : ByteArray) (ns : List Int) (T : TypeId) (w : World) (hs : s.size ≤ 1000000) (hl : ns.length ≤ 1000000) (hn : ∀ n ∈ ns, I64 n) (hR : (⟨(lineF (L s) ns ++ [10]).toArray⟩ : ByteArray) = R) :
    Calls Try.prog 23 #[.string s, .slice (some ⟨w.heap.size, 0, none⟩) ns.length ns.length] (w.alloc (.cells (i64s ns).toArray T)) fun e w' => e = .returned (.string R) ∧ Below (w.alloc (.cells (i64s ns).toArray T)).heap.size (w.alloc (.cells (i64s ns).toArray T)) w' := by
  rw [← hR]
  exact line_any s _ _ ns _ hs hl (elems_new w T ns hn)
theorem aw_line1 (w : World) :
    Calls Try.prog 23 #[.string ⟨#[98, 105, 107, 101, 115]⟩, .slice (some ⟨w.heap.size, 0, none⟩) 2 2] (w.alloc (.cells #[.int .i64 3, .int .i64 20] 2)) fun e w' => e = .returned (.string ⟨#[98, 105, 107, 101, 115, 32, 51, 32, 50, 48, 10]⟩) ∧ Below (w.alloc (.cells #[.int .i64 3, .int .i64 20] 2)).heap.size (w.alloc (.cells #[.int .i64 3, .int .i64 20] 2)) w' :=
  line_new ⟨#[98, 105, 107, 101, 115]⟩ _ [3, 20] 2 w (by decide) (by decide) (by unfold I64; decide) (by decide +kernel)
theorem aw_line2 (w : World) :
    Calls Try.prog 23 #[.string ⟨#[]⟩, .slice (some ⟨w.heap.size, 0, none⟩) 1 1] (w.alloc (.cells #[.int .i64 7] 2)) fun e w' => e = .returned (.string ⟨#[55, 10]⟩) ∧ Below (w.alloc (.cells #[.int .i64 7] 2)).heap.size (w.alloc (.cells #[.int .i64 7] 2)) w' :=
  line_new ⟨#[]⟩ _ [7] 2 w (by decide) (by decide) (by unfold I64; decide) (by decide +kernel)
set_option maxHeartbeats 4000000 in
theorem awake13_any (w : World) : Calls Try.prog 21 #[] w fun e w' => e = .returned (.bool true) ∧ Below w.heap.size w w' := by
  have h1 := Lib.hid aw_line1
  have h2 := Lib.hid aw_line2
  go_enter Try.func21, Try.ntmps21
  go_wp2_with fail
  refine (h1.out _).mono ?_
  rintro e w1 ⟨rfl, hb1⟩
  have hW1 := Lib.hid ((On.mk (Below.refl w.heap.size w) (Nat.le_refl _)).alloc (.cells #[.int .i64 3, .int .i64 20] 2))
  replace hW1 := Lib.hid (hW1.out.go hb1)
  clear hb1
  go_wp2_with fail
  refine (h2.out _).mono ?_
  rintro e w2 ⟨rfl, hb2⟩
  have hW2 := Lib.hid ((hW1.out.alloc (.cells #[.int .i64 7] 2)).go hb2)
  clear hb2
  go_wp2_with fail
  refine (awake12_any _).mono ?_
  rintro e w3 ⟨rfl, hb3⟩
  have hW3 := Lib.hid (hW2.out.go hb3)
  clear hb3
  go_wp2_with fail
  go_ret
  exact ⟨rfl, hW3.out.b⟩
set_option maxHeartbeats 16000000 in
set_option maxRecDepth 100000 in
theorem walk_ShowLines (w : World) (s : ByteArray) (hs : s.size ≤ 9223372036854775807) (A : Option Addr) (C : Nat) (ns : List Int) (hnl : ns.length ≤ 9223372036854775807) (HE : Elems .i64 w A ns) :
    Calls Try.prog 8 #[.string s, .slice A ns.length C] w fun e w' => e = .returned (.bool true) ∧ Below w.heap.size w w' := by
  have hA := Lib.hid awake13_any
  replace HE := Lib.hid HE
  go_enter Try.func8, Try.ntmps8
  go_wp2_with fail
  refine (hA.out _).mono ?_
  rintro e w1 ⟨rfl, hb1⟩
  have hW1 := Lib.hid (On.mk hb1 hb1.size)
  have hE1 := Lib.hid (HE.out.below hb1)
  clear hb1 HE hA
  by_cases h1 : 200 < s.size
  · have h1' : (200 : Int) < (s.size : Int) := by omega
    go_wp2_with fail
    go_ret
    exact ⟨rfl, hW1.out.b⟩
  by_cases h2 : 40 < ns.length
  · have h1' : ¬ (200 : Int) < (s.size : Int) := by omega
    have h2' : (40 : Int) < (ns.length : Int) := by omega
    go_wp2_with fail
    go_ret
    exact ⟨rfl, hW1.out.b⟩
  have h1' : ¬ (200 : Int) < (s.size : Int) := by omega
  have h2' : ¬ (40 : Int) < (ns.length : Int) := by omega
  have hLine := Lib.hid (fun w' (hb : Below w1.heap.size w1 w') => line_any s A C ns w' (by omega) (by omega) (hE1.out.below hb))
  have hsz := Lib.hid (fun k => lineF_len (ns.take k) (L s))
  go_wp2_with fail
  go_loopw [5, 21] (fun v i wr => ∃ (k : Nat) (T : ByteArray), k ≤ ns.length ∧ i = .int .i64 k ∧ v = .string T ∧ L T = lineF (L s) (ns.take k) ∧ Below w1.heap.size w1 wr) (fun _ i _ => ns.length - (intOf i).toNat)
  case atStart => exact ⟨0, s, Nat.zero_le _, rfl, rfl, rfl, Below.refl _ _⟩
  case round =>
    obtain ⟨k, T, hk, rfl, rfl, hT, hb⟩ := hrel
    have k0 : (0 : Int) ≤ (k : Int) := by omega
    have hlen := hsz.out k
    have htk : (ns.take k).length ≤ ns.length := by rw [List.length_take]; omega
    have hLs : (L s).length = s.size := rfl
    have hTs : T.size = (lineF (L s) (ns.take k)).length := by rw [← hT]; rfl
    have T9 : T.size ≤ 5000 := by omega
    clear hlen htk hTs
    have hbz := Lib.hid hb
    by_cases hkl : k < ns.length
    · obtain ⟨ad, rfl, hc, hw⟩ := (hE1.out.below hb) k hkl
      have k1 : (k : Int) < (ns.length : Int) := by omega
      have hI := Lib.hid (I64_of hw)
      have HS := lineF_snoc (L s) ns hkl
      have hgd : ns.getD k 0 = ns[k] := by rw [List.getD_eq_getElem?_getD, List.getElem?_eq_getElem hkl]; rfl
      rw [← hgd, ← hT] at HS
      replace HS := Lib.hid HS
      have hne : Hid (L T = [] ↔ k = 0 ∧ s = ⟨#[]⟩) := Lib.hid (by
        rw [hT]
        cases k with
        | zero =>
          constructor
          · intro h; exact ⟨rfl, L_eq h⟩
          · intro h; show L s = []; rw [h.2]
        | succ q =>
          rw [lineF_snoc (L s) ns (show q < ns.length by omega)]
          constructor
          · intro h; exact absurd h (stepL_ne _ _)
          · intro h; cases h.1)
      clear hgd hw hb hT
      generalize ns.getD k 0 = n at *
      have hNum := Lib.hid (num12 n hI.out)
      have hz := nT_size n
      have hLn := Lib.hid (L_nT n)
      generalize nT n = N at *
      have y1 : ¬ 9223372036854775807 < T.size + 1 := by omega
      have y2 : ¬ 9223372036854775807 < T.size + 1 + N.size := by omega
      have y3 : ¬ 9223372036854775807 < T.size + N.size := by omega
      have hB : Hid (¬ L T = [] → L ((T ++ ⟨#[32]⟩) ++ N) = stepL (L T) n) := Lib.hid (fun h => by rw [L_cat, L_cat, hLn.out]; unfold stepL; rw [if_neg h])
      have hN : Hid (L T = [] → L (T ++ N) = stepL (L T) n) := Lib.hid (fun h => by rw [L_cat, hLn.out]; unfold stepL; rw [if_pos h, h])
      rcases Nat.eq_zero_or_pos k with hk00 | hkp
      · have hkn : ¬ (0 : Int) < (k : Int) := by omega
        by_cases hse : s = ⟨#[]⟩
        · have hT0 := Lib.hid (hN.out (hne.out.2 ⟨hk00, hse⟩))
          have hse2 : s.toList.isEmpty = true := by rw [ByteArray.toList_eq, hse]; rfl
          clear hse hB hN hne hk00
          go_wp2_with fail
          refine (hNum.out _).mono ?_
          rintro e w9 ⟨rfl, rfl⟩
          go_wp2_with fail
          go_roundw
          case rel => exact ⟨k + 1, _, by omega, by go_num, rfl, by rw [HS.out]; exact hT0.out, hbz.out⟩
          case measure => simp [intOf]; omega
        · have hT0 := Lib.hid (hB.out (fun h => hse (hne.out.1 h).2))
          have hse2 : s.toList.isEmpty = false := by
            rw [ByteArray.toList_eq, Bool.eq_false_iff]
            intro h
            exact hse (L_eq (List.isEmpty_iff.1 h))
          clear hse
          clear hB hN hne hk00
          go_wp2_with fail
          refine (hNum.out _).mono ?_
          rintro e w9 ⟨rfl, rfl⟩
          go_wp2_with fail
          go_roundw
          case rel => exact ⟨k + 1, _, by omega, by go_num, rfl, by rw [HS.out]; exact hT0.out, hbz.out⟩
          case measure => simp [intOf]; omega
      · have hT0 := Lib.hid (hB.out (fun h => by have := (hne.out.1 h).1; omega))
        have hkp2 : (0 : Int) < (k : Int) := by omega
        clear hB hN hne
        go_wp2_with fail
        refine (hNum.out _).mono ?_
        rintro e w9 ⟨rfl, rfl⟩
        go_wp2_with fail
        go_roundw
        case rel => exact ⟨k + 1, _, by omega, by go_num, rfl, by rw [HS.out]; exact hT0.out, hbz.out⟩
        case measure => simp [intOf]; omega
    · obtain rfl : k = ns.length := by omega
      rw [List.take_length] at hT
      have hEq : (⟨(lineF (L s) ns ++ [10]).toArray⟩ : ByteArray) = T ++ ⟨#[10]⟩ := L_eq (by rw [L_cat, hT])
      have hL2 := hLine.out _ hb
      rw [hEq] at hL2
      have hW2 := Lib.hid (hW1.out.go hb)
      have y1 : ¬ 9223372036854775807 < T.size + 1 := by omega
      replace hL2 := Lib.hid hL2
      clear hb hT hEq hLine hE1 hsz hbz
      go_wp2_with fail
      refine hL2.out.mono ?_
      rintro e w3 ⟨rfl, hb3⟩
      have hW3 := Lib.hid (hW2.out.go hb3)
      clear hb3
      go_wp2_with fail
      go_ret
      exact ⟨rfl, hW3.out.b⟩
theorem law_ShowLines (w : World) (s : ByteArray) (hs : s.size ≤ maxLen) (a : Option Addr) (len cap : Nat) (zs : List Int) (hr : IsRow .i64 w a len cap zs) :
    Calls Try.prog 8 #[.string s, .slice a len cap] w fun e w' => e = .returned (.bool true) ∧ Below w.heap.size w w' := by
  obtain ⟨hE, hl, hm⟩ := elems_of hr
  have := walk_ShowLines w s hs a cap (zs.take len) (by omega) hE
  rwa [hl] at this
end Go.Proofs.Ytljcpgeggbbmfaa
namespace Go.Proofs.Ytljcpgeggbbmfaa
set_option linter.unusedVariables false
set_option linter.unusedSimpArgs false
open Go.RowKit Go.Shelf
def b_lays_ren : Go.Shelf.Ren := ⟨fun | 169 => 51 | n => n, fun | 70 => 94 | 9 => 9 | 0 => 0 | 72 => 96 | 37 => 38 | 127 => 122 | 3 => 3 | 5 => 5 | n => n, fun | n => n⟩
theorem b_lays : Lays.n169 Try.prog b_lays_ren := {
  mixed := by kernel_rfl
  f169 := Try.func51.trans (congrArg some (by kernel_rfl))
  t0 := Try.underlying0
  a0 := Try.isAgg0
  z0 := Try.sizeOf0
  v0 := Try.zeroValue0
  t3 := Try.underlying3
  a3 := Try.isAgg3
  z3 := Try.sizeOf3
  v3 := Try.zeroValue3
  t9 := Try.underlying9
  a9 := Try.isAgg9
  z9 := Try.sizeOf9
  v9 := Try.zeroValue9
  t37 := Try.underlying38
  a37 := Try.isAgg38
  z37 := Try.sizeOf38
  v37 := Try.zeroValue38
  t70 := Try.underlying94
  a70 := Try.isAgg94
  z70 := Try.sizeOf94
  v70 := Try.zeroValue94
  t72 := Try.underlying96
  a72 := Try.isAgg96
  z72 := Try.sizeOf96
  v72 := Try.zeroValue96
  t127 := Try.underlying122
  a127 := Try.isAgg122
  z127 := Try.sizeOf122
  v127 := Try.zeroValue122 }
theorem b_extra : Builder.Extra Try.prog b_lays_ren := {
  sizeBuilder := by kernel_rfl
  liesBuilder := by kernel_rfl
  t5 := Try.underlying5
  a5 := Try.isAgg5
  z5 := Try.sizeOf5
  v5 := Try.zeroValue5
  infoByte := by kernel_rfl
  cellsByte := by kernel_rfl
  sizeByte := by kernel_rfl
  neB5 := by decide }
theorem b_string (B b : Nat) (l : List UInt8) (w : World) (h : Lib.IsBuilder 96 5 B b (Lib.byteCells l) w) (hBw : B ≤ w.heap.size) :
    Calls Try.prog 51 #[.pointer (some ⟨b, 0, none⟩)] w fun e w' => e = .returned (.string ⟨l.toArray⟩) ∧ Below B w w' := Any.Builder_String_any b_lays b_extra B b l w h hBw

set_option maxHeartbeats 1000000 in
set_option maxRecDepth 100000 in
theorem cc_used (b : Nat) (w : World) (h0 : w.cell? ⟨b, 0, none⟩ = some (.pointer (some ⟨b, 0, none⟩))) :
    Calls Try.prog 66 #[.pointer (some ⟨b, 0, none⟩)] w fun e w' => e = .returned (.tuple #[]) ∧ w' = w := by
  obtain ⟨j, hj, _⟩ := Option.map_eq_some_iff.1 b_extra.sizeBuilder
  have hj2 : Try.prog.info? 96 = some j := hj
  have hneq := Lib.run_neq_ptr_same w ⟨b, 0, none⟩ Try.underlying94 hj2
  go_enter Try.func66, Try.ntmps66
  go_wp2
  go_end0
  exact ⟨rfl, rfl⟩
set_option maxHeartbeats 1000000 in
set_option maxRecDepth 100000 in
theorem cc_fresh (b : Nat) (w : World) (h0 : w.cell? ⟨b, 0, none⟩ = some (.pointer none)) (hsh : w.shape? b = some (96, 2)) (hfz : w.frozen? ⟨b, 0, none⟩ = false) :
    Calls Try.prog 66 #[.pointer (some ⟨b, 0, none⟩)] w fun e w' => e = .returned (.tuple #[]) ∧ w' = w.setCell ⟨b, 0, none⟩ (.pointer (some ⟨b, 0, none⟩)) := by
  obtain ⟨j, hj, hjs⟩ := Option.map_eq_some_iff.1 b_extra.sizeBuilder
  have hj2 : Try.prog.info? 96 = some j := hj
  go_enter Try.func66, Try.ntmps66
  go_wp2
  rw [Lib.run_to_unsafe w ⟨b, 0, none⟩ Try.underlying94 Try.underlying127 hj2 (by rw [hjs]; decide) hsh (Nat.zero_lt_succ 1)]
  simp only [Result.andThen]
  rw [Oper.upon_value]
  go_wp2
  rw [run_callFunc_extern Try.func71 (by kernel_rfl) (by kernel_rfl) (by kernel_rfl) (e := Extern.AbiNoEscape.same) (by kernel_rfl)]
  rw [Lib.run_noEscape]
  simp only [Result.andThen]
  rw [Oper.upon_value]
  go_wp2
  rw [Lib.run_from_unsafe w ⟨b, 0, none⟩ Try.underlying127 Try.underlying94 hj2 hsh b_extra.liesBuilder]
  simp only [Result.andThen]
  rw [Oper.upon_value]
  go_wp2
  go_end0
  exact ⟨rfl, rfl⟩
theorem cc_any (B b : Nat) (bs : List Value) (w : World) (h : Lib.IsBuilder 96 5 B b bs w) :
    Calls Try.prog 66 #[.pointer (some ⟨b, 0, none⟩)] w fun e w' => e = .returned (.tuple #[]) ∧ (Lib.BuilderAt 96 5 B b (.pointer (some ⟨b, 0, none⟩)) bs w' ∧ Below B w w') := by
  rcases h with h | h
  · refine (cc_fresh b w h.cell0 h.shape h.frozen0).mono ?_
    rintro e w' ⟨rfl, rfl⟩
    exact ⟨rfl, h.used _, (Below.refl B w).setCell (p := ⟨b, 0, none⟩) h.1 _⟩
  · refine (cc_used b w h.cell0).mono ?_
    rintro e w' ⟨rfl, rfl⟩
    exact ⟨rfl, h, Below.refl B _⟩
set_option maxHeartbeats 2000000 in
set_option maxRecDepth 100000 in
theorem write_any (B b : Nat) (l : List UInt8) (s : ByteArray) (w : World) (h : Lib.IsBuilder 96 5 B b (bC l) w) (hlen : l.length + s.size ≤ 1000000000) (hBw : B ≤ w.heap.size) :
    Calls Try.prog 49 #[.pointer (some ⟨b, 0, none⟩), .string s] w fun e w' => (∃ v, e = .returned v) ∧ Lib.IsBuilder 96 5 B b (bC (l ++ L s)) w' ∧ Below B w w' := by
  obtain ⟨i0, hi, hz0, hz1, hz2⟩ := info_parts b_extra.infoByte
  have hCC := Lib.hid (fun w' hh => cc_any B b (bC l) w' hh)
  have hl := bC_len l
  go_enter Try.func49, Try.ntmps49
  go_wp2_with fail
  refine (hCC.out _ h).mono ?_
  rintro e w1 ⟨rfl, h1, hb1⟩
  obtain ⟨hB, v, hbk, hown, hne⟩ := h1
  have c0 : w1.cell? ⟨b, 0, none⟩ = some (.pointer (some ⟨b, 0, none⟩)) := by rw [Lib.cell_of_heap hbk]; rfl
  have c1 : w1.cell? ⟨b, 1, none⟩ = some v := by rw [Lib.cell_of_heap hbk]; rfl
  go_wp2_with (at_builtin; refine Lib.wpList_append_own_string _ rfl _ _ 38 9 rfl B 5 i0 Try.underlying38 Try.underlying9 hi hz0 hz1 hz2 _ _ _ rfl hown s rfl ?c3 ?c4 ?c5 ?_)
  case c3 => unfold maxLen; omega
  case c4 => omega
  case c5 => have := hb1.size; omega
  intro v' w2 hown' hgrow _
  have hlt : b < w1.heap.size := heap_lt hbk
  have hb2 : w2.heap[b]? = some (.cells #[.pointer (some ⟨b, 0, none⟩), v] 96 (0, 0)) := by
    rw [hgrow.block b hlt (fun e => hne e.symm)]
    exact hbk
  have d0 : w2.cell? ⟨b, 0, none⟩ = some (.pointer (some ⟨b, 0, none⟩)) := by rw [Lib.cell_of_heap hb2]; rfl
  have d1 : w2.cell? ⟨b, 1, none⟩ = some v := by rw [Lib.cell_of_heap hb2]; rfl
  have f1 : w2.frozen? ⟨b, 1, none⟩ = false := Lib.frozen_of_heap hb2 1
  obtain ⟨ao, n', cap, rfl⟩ : ∃ ao n' cap, v' = .slice ao n' cap := by
    rcases hown'.2 with ⟨hv, _⟩ | ⟨g, cap, cur, hv, _⟩
    · exact ⟨_, _, _, hv⟩
    · exact ⟨_, _, _, hv⟩
  go_wp2
  go_ret2
  refine ⟨⟨_, rfl⟩, .inr ?_, ?_⟩
  · have e : bC (l ++ L s) = bC l ++ Lib.strCells s := Lib.byteCells_append l (L s)
    rw [e]
    exact Lib.BuilderAt.put (T := 96) (e := 5) hB hb2 (bs' := bC l ++ Lib.strCells s) (by simpa [Lib.strCells_length, bC_len] using hown') (by decide)
  · exact (hb1.grown hgrow (by have := hb1.size; omega) (fun k hk => (hown.lt k hk).1)).setCell (p := ⟨b, 1, none⟩) hB _
/-- a builder is one behind what leaves all old blocks as they were. -/
theorem built_below {B b : Nat} {bs : List Value} {w w' : World} (h : Lib.IsBuilder 96 5 B b bs w) (hb : Below w.heap.size w w') : Lib.IsBuilder 96 5 B b bs w' := by
  have go : ∀ p, Lib.BuilderAt 96 5 B b p bs w → Lib.BuilderAt 96 5 B b p bs w' := by
    rintro p ⟨hB, v, hk, hown, hne⟩
    exact ⟨hB, v, (hb.block b (heap_lt hk)).trans hk, hown.kept (grown_of_below hb) (by
      rcases hown.2 with ⟨hv, _⟩ | ⟨g, cap, cur, hv, _⟩
      · left; rw [hv]; rfl
      · right; rw [hv]; intro e; cases e), hne⟩
  rcases h with h | h
  · exact .inl (go _ h)
  · exact .inr (go _ h)
end Go.Proofs.Ytljcpgeggbbmfaa
namespace Go.Proofs.Ytljcpgeggbbmfaa
set_option linter.unusedVariables false
set_option linter.unusedSimpArgs false
open Go.RowKit
def lineL (name : List UInt8) (ns : List Int) : List UInt8 := lineF name ns ++ [10]
def lineTx (s : ByteArray) (ns : List Int) : ByteArray := ⟨(lineL (L s) ns).toArray⟩
theorem L_lineTx (s : ByteArray) (ns : List Int) : L (lineTx s ns) = lineL (L s) ns := rfl
def satL (x : SatD) : List UInt8 := lineL [] [x.room, x.hold]
def custL (x : CustD) : List UInt8 := lineL [] [x.load, x.opn, x.close, x.stay]
def rowsL (name : List UInt8) (ls : List (List Int)) : List UInt8 := lineL name [] ++ ls.flatMap (lineL [])
def p4 (X : InstD) : List UInt8 := ((lineL (L sWharfage) [X.fin] ++ lineL (L sTrucks) [X.tm, X.tr]) ++ lineL (L sBikes) [X.bm, X.br]) ++ lineL (L sSats) [(X.sats.length : Int)]
def p5 (X : InstD) : List UInt8 := p4 X ++ X.sats.flatMap satL
def p6 (X : InstD) : List UInt8 := p5 X ++ lineL (L sCusts) [(X.custs.length : Int)]
def p7 (X : InstD) : List UInt8 := p6 X ++ X.custs.flatMap custL
def p8 (X : InstD) : List UInt8 := p7 X ++ rowsL (L sCost) X.cost
def p9 (X : InstD) : List UInt8 := p8 X ++ rowsL (L sTime) X.time
/-- an instance's lines. -/
def showI (X : InstD) : List UInt8 := p9 X ++ lineL (L sEnd) []
/-- words, each with what stands behind it on a line. -/
def pairsW : List (List UInt8) → List (List UInt8 × List UInt8)
  | [] => []
  | [w] => [(w, [10])]
  | w :: v :: ws => (w, [32]) :: pairsW (v :: ws)
theorem pairsW_fst : ∀ ws : List (List UInt8), (pairsW ws).map Prod.fst = ws
  | [] => rfl
  | [w] => rfl
  | w :: v :: ws => by
    have := pairsW_fst (v :: ws)
    show w :: (pairsW (v :: ws)).map Prod.fst = _
    rw [this]
theorem pairsW_gap : ∀ (ws : List (List UInt8)), ∀ x ∈ pairsW ws, x.1 ∈ ws ∧ (x.2 = [32] ∨ x.2 = [10])
  | [], x, h => by cases h
  | [w], x, h => by
    rw [List.mem_singleton.1 (show x ∈ [(w, ([10] : List UInt8))] from h)]
    exact ⟨List.mem_singleton.2 rfl, .inr rfl⟩
  | w :: v :: ws, x, h => by
    rcases List.mem_cons.1 (show x ∈ (w, ([32] : List UInt8)) :: pairsW (v :: ws) from h) with h | h
    · rw [h]; exact ⟨List.mem_cons_self, .inl rfl⟩
    · obtain ⟨a, b⟩ := pairsW_gap (v :: ws) x h
      exact ⟨List.mem_cons_of_mem _ a, b⟩
theorem join_pairs : ∀ (ws : List (List UInt8)) (w : List UInt8), joinT (pairsW (w :: ws)) = (w ++ blank ws) ++ [10]
  | [], w => by show w ++ ([10] ++ []) = _; simp [blank]
  | v :: ws, w => by
    show w ++ ([32] ++ joinT (pairsW (v :: ws))) = _
    rw [join_pairs ws v, blank_cons]
    simp
theorem lineF_ne (ns : List Int) : ∀ b : List UInt8, b ≠ [] → lineF b ns = b ++ blank (ns.map textV) := by
  induction ns with
  | nil => intro b _; simp [lineF, blank]
  | cons n ns ih =>
    intro b hb
    show lineF (stepL b n) ns = _
    rw [ih _ (stepL_ne b n), List.map_cons, blank_cons]
    unfold stepL
    rw [if_neg hb]
    simp
theorem lineL_name (b : List UInt8) (ns : List Int) (hb : b ≠ []) : lineL b ns = joinT (pairsW (b :: ns.map textV)) := by
  unfold lineL
  rw [lineF_ne ns b hb, join_pairs]
theorem lineL_nums (ns : List Int) (h : ns ≠ []) : lineL [] ns = joinT (pairsW (ns.map textV)) := by
  cases ns with
  | nil => exact absurd rfl h
  | cons n ns =>
    unfold lineL
    show lineF (stepL [] n) ns ++ [10] = _
    rw [lineF_ne ns _ (stepL_ne _ _), List.map_cons, join_pairs]
    rfl
/-- an instance's lines as words. -/
def linesI (X : InstD) : List (List (List UInt8)) :=
  [L sWharfage, textV X.fin] :: [L sTrucks, textV X.tm, textV X.tr] :: [L sBikes, textV X.bm, textV X.br] :: [L sSats, textV (X.sats.length : Int)] ::
    (X.sats.map (fun x => [textV x.room, textV x.hold]) ++ ([L sCusts, textV (X.custs.length : Int)] :: (X.custs.map (fun x => [textV x.load, textV x.opn, textV x.close, textV x.stay]) ++
      ([L sCost] :: (X.cost.map (fun r => r.map textV) ++ ([L sTime] :: (X.time.map (fun r => r.map textV) ++ [[L sEnd]])))))))
theorem lines_words (X : InstD) : (linesI X).flatten = wordsI X := by
  unfold linesI wordsI
  simp [List.flatMap]
theorem join_flat (ls : List (List (List UInt8))) : joinT (ls.flatMap pairsW) = ls.flatMap (fun l => joinT (pairsW l)) := by
  induction ls with
  | nil => rfl
  | cons l ls ih => rw [List.flatMap_cons, joinT_app, ih, List.flatMap_cons]
theorem fst_flat (ls : List (List (List UInt8))) : (ls.flatMap pairsW).map Prod.fst = ls.flatten := by
  induction ls with
  | nil => rfl
  | cons l ls ih => rw [List.flatMap_cons, List.map_append, pairsW_fst, ih, List.flatten_cons]
theorem flat_congr {α β : Type} (f g : α → List β) (l : List α) (h : ∀ x ∈ l, f x = g x) : l.flatMap f = l.flatMap g := by
  induction l with
  | nil => rfl
  | cons x l ih => rw [List.flatMap_cons, List.flatMap_cons, h x List.mem_cons_self, ih (fun y hy => h y (List.mem_cons_of_mem _ hy))]
theorem showI_join (X : InstD) (h1 : ∀ r ∈ X.cost, r ≠ []) (h2 : ∀ r ∈ X.time, r ≠ []) : showI X = joinT ((linesI X).flatMap pairsW) := by
  have hr : ∀ ls : List (List Int), (∀ r ∈ ls, r ≠ []) → (ls.map (fun r => r.map textV)).flatMap (fun l => joinT (pairsW l)) = ls.flatMap (lineL []) := fun ls h => by
    rw [List.flatMap_map]
    exact flat_congr _ _ _ (fun r hr => (lineL_nums r (h r hr)).symm)
  have hs : (X.sats.map (fun x => [textV x.room, textV x.hold])).flatMap (fun l => joinT (pairsW l)) = X.sats.flatMap satL := by
    rw [List.flatMap_map]
    exact flat_congr _ _ _ (fun x _ => (lineL_nums [x.room, x.hold] (by simp)).symm)
  have hc : (X.custs.map (fun x => [textV x.load, textV x.opn, textV x.close, textV x.stay])).flatMap (fun l => joinT (pairsW l)) = X.custs.flatMap custL := by
    rw [List.flatMap_map]
    exact flat_congr _ _ _ (fun x _ => (lineL_nums [x.load, x.opn, x.close, x.stay] (by simp)).symm)
  rw [join_flat]
  unfold linesI
  simp only [List.flatMap_cons, List.flatMap_append, List.flatMap_nil, hr X.cost h1, hr X.time h2, hs, hc]
  unfold showI p9 p8 p7 p6 p5 p4 rowsL
  rw [lineL_name (L sWharfage) _ (by decide), lineL_name (L sTrucks) _ (by decide), lineL_name (L sBikes) _ (by decide), lineL_name (L sSats) _ (by decide), lineL_name (L sCusts) _ (by decide), lineL_name (L sCost) _ (by decide), lineL_name (L sTime) _ (by decide), lineL_name (L sEnd) _ (by decide)]
  simp only [List.map_cons, List.map_nil, List.append_assoc, List.append_nil]
theorem row_ne {X : InstD} (K : ReadOk X) : (∀ r ∈ X.cost, r ≠ []) ∧ ∀ r ∈ X.time, r ≠ [] := by
  have hN : 1 ≤ nodesN X := by unfold nodesN; omega
  exact ⟨fun r hr e => by have := K.ro r hr; rw [e] at this; simp at this; omega, fun r hr e => by have := K.rt r hr; rw [e] at this; simp at this; omega⟩
theorem textV_10 {v : Int} (h0 : 0 ≤ v) (h1 : v ≤ 1000000000) : (textV v).length ≤ 10 := by
  unfold textV digN
  rw [if_neg (by omega)]
  exact digF_length 19 10 v.natAbs (by omega) (by have : (10 : Nat) ^ 10 = 10000000000 := rfl; omega)
/-- the words of an instance that may be read are no longer than ten bytes. -/
theorem words_10 {X : InstD} (K : ReadOk X) : ∀ w ∈ wordsI X, w.length ≤ 10 := by
  intro w hw
  have hk : ∀ t ∈ [sWharfage, sTrucks, sBikes, sSats, sCusts, sCost, sTime, sEnd], (L t).length ≤ 10 := by decide
  unfold wordsI at hw
  simp only [List.mem_cons, List.mem_append, List.mem_flatMap, List.mem_map, List.not_mem_nil, or_false] at hw
  have s2 := K.s2
  have c2 := K.c2
  rcases hw with h | h | h | h | h | h | h | h | h | h | ⟨x, hx, h | h⟩ | h | h | ⟨x, hx, h | h | h | h⟩ | h | ⟨r, hr, v, hv, h⟩ | h | ⟨r, hr, v, hv, h⟩ | h
  all_goals first
    | (rw [h]; exact hk _ (by simp))
    | (rw [h]; exact textV_10 (by have := K.fin; omega) (by have := K.fin; omega))
    | (rw [h]; exact textV_10 (by have := K.tm; omega) (by have := K.tm; omega))
    | (rw [h]; exact textV_10 (by have := K.tr; omega) (by have := K.tr; omega))
    | (rw [h]; exact textV_10 (by have := K.bm; omega) (by have := K.bm; omega))
    | (rw [h]; exact textV_10 (by have := K.br; omega) (by have := K.br; omega))
    | (rw [h]; exact textV_10 (by omega) (by omega))
    | (rw [h]; exact textV_10 (by have := K.sat x hx; omega) (by have := K.sat x hx; omega))
    | (rw [h]; exact textV_10 (by have := K.cust x hx; omega) (by have := K.cust x hx; omega))
    | (obtain ⟨i, hi⟩ := List.getElem?_of_mem hr
       obtain ⟨k, hk⟩ := List.getElem?_of_mem hv
       rw [← h]
       first
         | exact textV_10 (K.co i r hi k v hk).1 (K.co i r hi k v hk).2.1
         | exact textV_10 (K.ti i r hi k v hk).1 (K.ti i r hi k v hk).2.1)
def showTx (X : InstD) : ByteArray := ⟨(showI X).toArray⟩
/-- an instance's lines: their words; all bytes may stand; they aren't too many. -/
theorem show_ok {X : InstD} (K : ReadOk X) : okAll (showTx X) = true ∧ (showTx X).size ≤ 131072 ∧ texts (wordsL (showTx X)) = wordsI X := by
  have hL : L (showTx X) = showI X := rfl
  obtain ⟨r1, r2⟩ := row_ne K
  have hj := showI_join X r1 r2
  have hp : ∀ x ∈ (linesI X).flatMap pairsW, x.1 ∈ wordsI X ∧ (x.2 = [32] ∨ x.2 = [10]) := by
    intro x hx
    obtain ⟨l, hl, hx⟩ := List.mem_flatMap.1 hx
    obtain ⟨a, b⟩ := pairsW_gap l x hx
    refine ⟨?_, b⟩
    rw [← lines_words]
    exact List.mem_flatten.2 ⟨l, hl, a⟩
  have hg : ∀ g : List UInt8, g = [32] ∨ g = [10] → isGap g ∧ g.length = 1 ∧ g.all (fun c => okB c.toNat) = true := by
    rintro g (rfl | rfl)
    · exact ⟨gap_a, rfl, rfl⟩
    · exact ⟨gap_b, rfl, rfl⟩
  refine ⟨?_, ?_, ?_⟩
  · rw [okAll_iff, hL, hj]
    exact joinP_all _ _ (fun x hx => ⟨(okW_I X _ (hp x hx).1).2.1, (hg _ (hp x hx).2).2.2⟩)
  · have h1 := joinP_len ((linesI X).flatMap pairsW) 11 (fun x hx => by
      have a := words_10 K _ (hp x hx).1
      have b := (hg _ (hp x hx).2).2.1
      omega)
    rw [← hj, ← hL, L_length] at h1
    have h2 := congrArg List.length (fst_flat (linesI X))
    rw [List.length_map, lines_words, wordsI_len K] at h2
    have s2 := K.s2
    have c2 := K.c2
    have n61 : nodesN X ≤ 61 := by unfold nodesN; omega
    have hn : nodesN X * nodesN X ≤ 61 * 61 := Nat.mul_le_mul n61 n61
    omega
  · show (wordsL _).map (fun x => L x.text) = _
    rw [words_texts, hL, hj, end_join _ (fun x hx => ⟨(okW_I X _ (hp x hx).1).1, (hg _ (hp x hx).2).1⟩), fst_flat, lines_words]
/-- what is told is read as it was. -/
theorem show_back {X : InstD} (K : ReadOk X) (w : World) : Calls Try.prog 14 #[.string (showTx X)] w (POut (.inl X) w) := by
  obtain ⟨h1, h2, h3⟩ := show_ok K
  have := parse_fine _ h2 h1 w
  rwa [parseW_back _ K h3] at this
/-- two instances that may be read and have the same lines are the same. -/
theorem show_inj {X Y : InstD} (KX : ReadOk X) (KY : ReadOk Y) (h : showTx X = showTx Y) : X = Y := by
  have h1 := parseW_back (ws := wordsL (showTx X)) 0 KX (show_ok KX).2.2
  have h2 := parseW_back (ws := wordsL (showTx X)) 0 KY (by rw [h]; exact (show_ok KY).2.2)
  rw [h1] at h2
  injection h2
end Go.Proofs.Ytljcpgeggbbmfaa
namespace Go.Proofs.Ytljcpgeggbbmfaa
set_option linter.unusedVariables false
set_option linter.unusedSimpArgs false
open Go.RowKit
/-- the builder, made in block b behind the world W: it holds the bytes l; all that lay below b is as it was. -/
structure SB (W : World) (b : Nat) (l : List UInt8) (w : World) : Prop where
  is : Lib.IsBuilder 96 5 b b (bC l) w
  on : Below b W w
  le : b ≤ w.heap.size
theorem SB.below {W : World} {b : Nat} {l : List UInt8} {w w' : World} (h : SB W b l w) (hb : Below w.heap.size w w') : SB W b l w' :=
  ⟨built_below h.is hb, h.on.trans (hb.mono h.le), Nat.le_trans h.le hb.size⟩
theorem SB.alloc {W : World} {b : Nat} {l : List UInt8} {w : World} (h : SB W b l w) (o : Obj) : SB W b l (w.alloc o) := h.below (below_new w o)
theorem SB.new (W : World) : SB W W.heap.size [] (W.alloc (.cells #[.pointer none, .slice none 0 0] 96)) :=
  ⟨Lib.fresh_isBuilder 96 5 W, below_new W _, (below_new W _).size⟩
/-- WriteString at such a builder. -/
theorem SB.write {W : World} {b : Nat} {l : List UInt8} {w : World} (h : SB W b l w) (s : ByteArray) (hlen : l.length + s.size ≤ 1000000000) :
    Calls Try.prog 49 #[.pointer (some ⟨b, 0, none⟩), .string s] w fun e w' => (∃ v, e = .returned v) ∧ SB W b (l ++ L s) w' :=
  (write_any b b l s w h.is hlen h.le).mono fun e w' ⟨h1, h2, h3⟩ => ⟨h1, h2, h.on.trans h3, Nat.le_trans h.le h3.size⟩
theorem lineL_len (b : List UInt8) (ns : List Int) : (lineL b ns).length ≤ b.length + 21 * ns.length + 1 := by
  have := lineF_len ns b
  unfold lineL
  simp; omega
theorem flatL_len {α : Type} (f : α → List UInt8) (c : Nat) (l : List α) (h : ∀ x ∈ l, (f x).length ≤ c) : (l.flatMap f).length ≤ c * l.length := by
  induction l with
  | nil => simp
  | cons x l ih =>
    have h1 := ih (fun y hy => h y (List.mem_cons_of_mem _ hy))
    have h2 := h x List.mem_cons_self
    rw [List.flatMap_cons, List.length_append, List.length_cons, Nat.mul_succ]; omega
theorem flat_snoc {α : Type} (f : α → List UInt8) (l : List α) {k : Nat} (h : k < l.length) : (l.take (k + 1)).flatMap f = (l.take k).flatMap f ++ f l[k] := by
  rw [List.take_succ_eq_append_getElem h, List.flatMap_append]; simp
theorem line_lay (s : ByteArray) (ns : List Int) (w : World) (hs : s.size ≤ 1000000) (hl : ns.length ≤ 1000000) (hn : ∀ n ∈ ns, I64 n) :
    Calls Try.prog 23 #[.string s, .slice (some ⟨w.heap.size, 0, none⟩) ns.length ns.length] (w.alloc (.cells (i64s ns).toArray 2)) fun e w' => e = .returned (.string (lineTx s ns)) ∧ Below (w.alloc (.cells (i64s ns).toArray 2)).heap.size (w.alloc (.cells (i64s ns).toArray 2)) w' :=
  line_new s (lineTx s ns) ns _ w hs hl hn rfl
theorem line_layG (s : ByteArray) (ns : List Int) (w : World) (g : Nat) (hg : g = w.heap.size) (hs : s.size ≤ 1000000) (hl : ns.length ≤ 1000000) (hn : ∀ n ∈ ns, I64 n) :
    Calls Try.prog 23 #[.string s, .slice (some ⟨g, 0, none⟩) ns.length ns.length] (w.alloc (.cells (i64s ns).toArray 2)) fun e w' => e = .returned (.string (lineTx s ns)) ∧ Below (w.alloc (.cells (i64s ns).toArray 2)).heap.size (w.alloc (.cells (i64s ns).toArray 2)) w' := by
  subst hg
  exact line_lay s ns w hs hl hn
theorem line_name (s : ByteArray) (w : World) (hs : s.size ≤ 1000000) : Calls Try.prog 23 #[.string s, .slice none 0 0] w fun e w' => e = .returned (.string (lineTx s [])) ∧ Below w.heap.size w w' :=
  line_any s none 0 [] w hs (by decide) (fun i hi => by simp at hi)
theorem line_row (r : List Int) (a : Option Addr) (c : Nat) (w : World) (hl : r.length ≤ 1000000) (hn : ∀ n ∈ r, I64 n) (HR : Rd w a (i64s r)) : Calls Try.prog 23 #[.string ⟨#[]⟩, .slice a r.length c] w fun e w' => e = .returned (.string (lineTx ⟨#[]⟩ r)) ∧ Below w.heap.size w w' :=
  line_any ⟨#[]⟩ a c r w (by decide) hl (elems_rd HR hn)
theorem lineTx_size (s : ByteArray) (ns : List Int) : (lineTx s ns).size ≤ s.size + 21 * ns.length + 1 := lineL_len (L s) ns
set_option maxHeartbeats 8000000 in
set_option maxRecDepth 100000 in
theorem rows_show (name : ByteArray) (A : Option Addr) (C : Nat) (ls : List (List Int)) (W0 : World) (HR : Rows2 W0 A ls) (W : World) (b : Nat) (hWW : Below W0.heap.size W0 W) (hb0 : W0.heap.size ≤ b) (l : List UInt8) (w : World) (h : SB W b l w)
    (hl : l.length ≤ 1000000) (hs : name.size ≤ 100) (h61 : ls.length ≤ 61) (hr61 : ∀ r ∈ ls, r.length ≤ 61) (hn : ∀ r ∈ ls, ∀ n ∈ r, I64 n) :
    Calls Try.prog 50 #[.pointer (some ⟨b, 0, none⟩), .string name, .slice A ls.length C] w fun e w' => (∃ v, e = .returned v) ∧ SB W b (l ++ rowsL (L name) ls) w' := by
  have hln := Lib.hid (fun w' => line_name name w' (by omega))
  have hwr := Lib.hid (fun (l : List UInt8) (s : ByteArray) (w : World) (h : SB W b l w) (hlen : l.length + s.size ≤ 1000000000) => h.write s hlen)
  have hRow := Lib.hid (fun w' (h : Below b W w') => HR.below (hWW.trans (h.mono hb0)))
  have hz := lineTx_size name []
  have hfl := Lib.hid (fun k => flatL_len (lineL []) 1283 (ls.take k) (fun r hr => by
    have := lineL_len [] r
    have := hr61 r (List.mem_of_mem_take hr)
    simp at *
    omega))
  replace h := Lib.hid h
  replace hn := Lib.hid hn
  replace hr61 := Lib.hid hr61
  have hT : Hid (L (lineTx name []) = lineL (L name) []) := Lib.hid rfl
  have hTl : (lineL (L name) []).length ≤ 101 := by
    have := lineL_len (L name) []
    have e : (L name).length = name.size := rfl
    simp at this
    omega
  generalize lineTx name [] = N at *
  go_enter Try.func50, Try.ntmps50
  go_wp2_with fail
  refine (hln.out _).mono ?_
  rintro e w1 ⟨rfl, hb1⟩
  have h1 := Lib.hid (h.out.below hb1)
  clear hb1
  go_wp2_with fail
  refine (hwr.out _ N _ h1.out (by simp at hz; omega)).mono ?_
  rintro e w2 ⟨⟨v, rfl⟩, h2⟩
  rw [hT.out] at h2
  replace h2 := Lib.hid h2
  clear h1 h
  go_wp2_with fail
  go_loopw [14] (fun i wr => ∃ k : Nat, k ≤ ls.length ∧ i = .int .i64 k ∧ SB W b ((l ++ lineL (L name) []) ++ (ls.take k).flatMap (lineL [])) wr) (fun i _ => ls.length - (intOf i).toNat)
  case atStart => exact ⟨0, Nat.zero_le _, rfl, by rw [show (ls.take 0).flatMap (lineL []) = [] from rfl, List.append_nil]; exact h2.out⟩
  case round =>
    obtain ⟨k, hk, rfl, hSB⟩ := hrel
    by_cases hkl : k < ls.length
    · obtain ⟨b', off, a, c, rfl, hc, hr, HA⟩ := (hRow.out _ hSB.on).row hkl
      have HS := Lib.hid (flat_snoc (lineL []) ls hkl)
      have hf := hfl.out k
      have htk : (ls.take k).length ≤ 61 := by rw [List.length_take]; omega
      have hrr := hr61.out ls[k] (List.getElem_mem hkl)
      have hnn := Lib.hid (hn.out ls[k] (List.getElem_mem hkl))
      generalize ls[k] = r at *
      generalize (ls.take k).flatMap (lineL []) = F at *
      have hF : F.length ≤ 80000 := by
        have : 1283 * (ls.take k).length ≤ 1283 * 61 := Nat.mul_le_mul_left _ htk
        omega
      have hz2 := lineTx_size ⟨#[]⟩ r
      have hT2 : Hid (L (lineTx ⟨#[]⟩ r) = lineL [] r) := Lib.hid rfl
      have hLr := Lib.hid (line_row r a c wr (by omega) hnn.out HA)
      generalize lineTx ⟨#[]⟩ r = N2 at *
      have hz3 : N2.size ≤ 1283 := by have e0 : (⟨#[]⟩ : ByteArray).size = 0 := rfl; omega
      have hlen : (l ++ lineL (L name) [] ++ F).length ≤ 2000000 := by simp only [List.length_append]; omega
      replace hSB := Lib.hid hSB
      clear hf htk HA hz2 hfl
      go_wp2_with fail
      refine hLr.out.mono ?_
      rintro e w3 ⟨rfl, hb3⟩
      have h3 := Lib.hid (hSB.out.below hb3)
      clear hb3
      go_wp2_with fail
      refine (hwr.out _ N2 _ h3.out (by omega)).mono ?_
      rintro e w4 ⟨⟨v4, rfl⟩, h4⟩
      rw [hT2.out] at h4
      replace h4 := Lib.hid h4
      go_wp2_with fail
      go_roundw
      case rel => exact ⟨k + 1, by omega, by go_num, by rw [HS.out, ← List.append_assoc]; exact h4.out⟩
      case measure => simp [intOf]; omega
    · obtain rfl : k = ls.length := by omega
      rw [List.take_length] at hSB
      have hEnd := Lib.hid hSB
      clear hSB
      go_wp2_with fail
      go_end0
      exact ⟨⟨_, rfl⟩, by have := hEnd.out; unfold rowsL; rwa [List.append_assoc] at this⟩

set_option maxHeartbeats 16000000 in
set_option maxRecDepth 100000 in
theorem show_any (X : InstD) (h : HdD) (K : ReadOk X) (w : World) (H : InstIs w X h) :
    Calls Try.prog 24 #[.agg (instC X h)] w fun e w' => e = .returned (.string (showTx X)) ∧ Below w.heap.size w w' := by
  obtain ⟨sa, sc, ca, cc, oa, oc, ta, tc⟩ := h
  have BX := Boxed.new w X ⟨sa, sc, ca, cc, oa, oc, ta, tc⟩ 29
  have BW := (Below.refl w.heap.size w).alloc (Nat.le_refl _) (.cells (instC X ⟨sa, sc, ca, cc, oa, oc, ta, tc⟩) 29)
  obtain ⟨H1, H2, H3, H4, hls, hlc, hlo, hln⟩ := H
  have k12 := K.s2
  have k48 := K.c2
  have n61 : nodesN X ≤ 61 := by unfold nodesN; omega
  have lo61 : X.cost.length ≤ 61 := by rw [K.o]; exact n61
  have lt61 : X.time.length ≤ 61 := by rw [K.t]; exact n61
  have ro61 := Lib.hid (fun r (hr : r ∈ X.cost) => show r.length ≤ 61 by rw [K.ro r hr]; exact n61)
  have rt61 := Lib.hid (fun r (hr : r ∈ X.time) => show r.length ≤ 61 by rw [K.rt r hr]; exact n61)
  have ron := Lib.hid (fun r (hr : r ∈ X.cost) n (hn : n ∈ r) => show I64 n by
    obtain ⟨i, hi⟩ := List.getElem?_of_mem hr
    obtain ⟨k, hk⟩ := List.getElem?_of_mem hn
    obtain ⟨a, b, _⟩ := K.co i r hi k n hk
    exact i64_of a b)
  have rtn := Lib.hid (fun r (hr : r ∈ X.time) n (hn : n ∈ r) => show I64 n by
    obtain ⟨i, hi⟩ := List.getElem?_of_mem hr
    obtain ⟨k, hk⟩ := List.getElem?_of_mem hn
    obtain ⟨a, b, _⟩ := K.ti i r hi k n hk
    exact i64_of a b)
  have hsat := Lib.hid K.sat
  have hcust := Lib.hid K.cust
  have i1 := Lib.hid (show I64 X.fin from i64_of K.fin.1 K.fin.2)
  have i2 := Lib.hid (show I64 X.tm from i64_of (by have := K.tm; omega) (by have := K.tm; omega))
  have i3 := Lib.hid (show I64 X.tr from i64_of K.tr.1 K.tr.2)
  have i4 := Lib.hid (show I64 X.bm from i64_of (by have := K.bm; omega) (by have := K.bm; omega))
  have i5 := Lib.hid (show I64 X.br from i64_of K.br.1 K.br.2)
  have i6 := Lib.hid (show I64 (X.sats.length : Int) from i64_of (by omega) (by omega))
  have i7 := Lib.hid (show I64 (X.custs.length : Int) from i64_of (by omega) (by omega))
  have l4 : (p4 X).length ≤ 400 := by
    have a := lineL_len (L sWharfage) [X.fin]
    have b := lineL_len (L sTrucks) [X.tm, X.tr]
    have c := lineL_len (L sBikes) [X.bm, X.br]
    have d := lineL_len (L sSats) [(X.sats.length : Int)]
    have e1 : (L sWharfage).length = 8 := rfl
    have e2 : (L sTrucks).length = 6 := rfl
    have e3 : (L sBikes).length = 5 := rfl
    have e4 : (L sSats).length = 10 := rfl
    unfold p4
    simp only [List.length_append, List.length_cons, List.length_nil] at *
    omega
  have hfs := Lib.hid (fun k => flatL_len satL 43 (X.sats.take k) (fun x _ => lineL_len [] [x.room, x.hold]))
  have hfc := Lib.hid (fun k => flatL_len custL 85 (X.custs.take k) (fun x _ => lineL_len [] [x.load, x.opn, x.close, x.stay]))
  have l6b : (lineL (L sCusts) [(X.custs.length : Int)]).length ≤ 100 := by
    have d := lineL_len (L sCusts) [(X.custs.length : Int)]
    have e4 : (L sCusts).length = 9 := rfl
    simp only [List.length_cons, List.length_nil] at *
    omega
  have l8b : (rowsL (L sCost) X.cost).length ≤ 90000 := by
    have a := lineL_len (L sCost) []
    have e4 : (L sCost).length = 4 := rfl
    have b := flatL_len (lineL []) 1283 X.cost (fun r hr => by have := lineL_len [] r; have := ro61.out r hr; simp at *; omega)
    unfold rowsL
    simp only [List.length_append, List.length_cons, List.length_nil] at *
    have : 1283 * X.cost.length ≤ 1283 * 61 := Nat.mul_le_mul_left _ lo61
    omega
  have l9b : (rowsL (L sTime) X.time).length ≤ 90000 := by
    have a := lineL_len (L sTime) []
    have e4 : (L sTime).length = 4 := rfl
    have b := flatL_len (lineL []) 1283 X.time (fun r hr => by have := lineL_len [] r; have := rt61.out r hr; simp at *; omega)
    unfold rowsL
    simp only [List.length_append, List.length_cons, List.length_nil] at *
    have : 1283 * X.time.length ≤ 1283 * 61 := Nat.mul_le_mul_left _ lt61
    omega
  have e5 : Hid (p5 X = p4 X ++ X.sats.flatMap satL) := Lib.hid rfl
  have e6 : Hid (p6 X = p5 X ++ lineL (L sCusts) [(X.custs.length : Int)]) := Lib.hid rfl
  have e7 : Hid (p7 X = p6 X ++ X.custs.flatMap custL) := Lib.hid rfl
  have e8 : Hid (p8 X = p7 X ++ rowsL (L sCost) X.cost) := Lib.hid rfl
  have e9 : Hid (p9 X = p8 X ++ rowsL (L sTime) X.time) := Lib.hid rfl
  have eE : Hid (showI X = p9 X ++ lineL (L sEnd) []) := Lib.hid rfl
  have e4 : Hid (p4 X = ((lineL (L sWharfage) [X.fin] ++ lineL (L sTrucks) [X.tm, X.tr]) ++ lineL (L sBikes) [X.bm, X.br]) ++ lineL (L sSats) [(X.sats.length : Int)]) := Lib.hid rfl
  clear K
  dsimp only [instC] at H1 H2 H3 H4 BX BW ⊢
  replace H1 := Lib.hid (H1.below BW)
  replace H2 := Lib.hid (H2.below BW)
  replace H3 := Lib.hid (H3.below BW)
  replace H4 := Lib.hid (H4.below BW)
  replace BW := Lib.hid (On.mk BW BW.size)
  go_enter Try.func24, Try.ntmps24
  go_upto_region 1 with fail
  generalize (w.alloc (.cells #[.int .i64 X.fin, .int .i64 X.tm, .int .i64 X.tr, .int .i64 X.bm, .int .i64 X.br, .slice sa X.sats.length sc, .slice ca X.custs.length cc, .slice oa X.cost.length oc, .slice ta X.time.length tc] 29)) = W at *
  generalize hg0 : w.heap.size = g0 at *
  replace hg0 := Lib.hid hg0
  have hSB0 := SB.new W
  have hbx := Lib.hid (fun w' (hb : Below W.heap.size W w') => BX.below hb)
  have hH1 := Lib.hid (fun w' (hb : Below W.heap.size W w') => H1.out.below hb)
  have hH2 := Lib.hid (fun w' (hb : Below W.heap.size W w') => H2.out.below hb)
  clear BX H1 H2
  have hWle := Lib.hid (Nat.le_refl W.heap.size)
  go_upto_region 2 with fail
  generalize W.alloc (.cells #[.pointer none, .slice none 0 0] 96) = w1 at *
  obtain ⟨B, hB⟩ : ∃ B, W.heap.size = B := ⟨_, rfl⟩
  rw [hB] at hSB0 hbx hH1 hH2 hWle
  simp only [hB]
  replace hB := Lib.hid hB
  replace hSB0 := Lib.hid hSB0
  have hwr := Lib.hid (fun (l : List UInt8) (s : ByteArray) (w : World) (h : SB W B l w) (hlen : l.length + s.size ≤ 1000000000) => h.write s hlen)
  have cb := (hbx.out _ hSB0.out.on).2
  have c0 := cb 0 _ rfl
  clear cb
  go_wp2_with fail
  refine (line_lay sWharfage [X.fin] _ (by decide) (by simp) (by simp only [List.mem_cons, List.not_mem_nil, or_false, forall_eq_or_imp, forall_eq]; exact i1.out)).mono ?_
  rintro e wA ⟨rfl, hbA⟩
  have hA := Lib.hid ((hSB0.out.alloc _).below hbA)
  have hz := lineTx_size sWharfage [X.fin]
  clear hbA c0
  go_wp2_with fail
  refine (hwr.out _ _ _ hA.out (by have q1 := lineL_len (L sWharfage) [X.fin]; have q2 := lineL_len (L sTrucks) [X.tm, X.tr]; have q3 := lineL_len (L sBikes) [X.bm, X.br]; have e1 : (L sWharfage).length = 8 := rfl; have e2 : (L sTrucks).length = 6 := rfl; have e3 : (L sBikes).length = 5 := rfl; have z1 : sWharfage.size = 8 := rfl; have z2 : sTrucks.size = 6 := rfl; have z3 : sBikes.size = 5 := rfl; have z4 : sSats.size = 10 := rfl; simp only [List.length_append, List.length_cons, List.length_nil] at *; omega)).mono ?_
  rintro e wB ⟨⟨v, rfl⟩, hB1⟩
  rw [L_lineTx] at hB1
  have hS1 := Lib.hid hB1
  clear hA hB1 hSB0 hz
  have cb := (hbx.out _ hS1.out.on).2
  have c1 := cb 1 _ rfl
  have c2 := cb 2 _ rfl
  clear cb
  go_wp2_with fail
  refine (line_lay sTrucks [X.tm, X.tr] _ (by decide) (by simp) (by simp only [List.mem_cons, List.not_mem_nil, or_false, forall_eq_or_imp, forall_eq]; exact ⟨i2.out, i3.out⟩)).mono ?_
  rintro e wA ⟨rfl, hbA⟩
  have hA := Lib.hid ((hS1.out.alloc _).below hbA)
  have hz := lineTx_size sTrucks [X.tm, X.tr]
  clear hbA c1 c2
  go_wp2_with fail
  refine (hwr.out _ _ _ hA.out (by have q1 := lineL_len (L sWharfage) [X.fin]; have q2 := lineL_len (L sTrucks) [X.tm, X.tr]; have q3 := lineL_len (L sBikes) [X.bm, X.br]; have e1 : (L sWharfage).length = 8 := rfl; have e2 : (L sTrucks).length = 6 := rfl; have e3 : (L sBikes).length = 5 := rfl; have z1 : sWharfage.size = 8 := rfl; have z2 : sTrucks.size = 6 := rfl; have z3 : sBikes.size = 5 := rfl; have z4 : sSats.size = 10 := rfl; simp only [List.length_append, List.length_cons, List.length_nil] at *; omega)).mono ?_
  rintro e wB ⟨⟨v, rfl⟩, hB1⟩
  rw [L_lineTx] at hB1
  have hS2 := Lib.hid hB1
  clear hA hB1 hS1 hz
  have cb := (hbx.out _ hS2.out.on).2
  have c3 := cb 3 _ rfl
  have c4 := cb 4 _ rfl
  clear cb
  go_wp2_with fail
  refine (line_lay sBikes [X.bm, X.br] _ (by decide) (by simp) (by simp only [List.mem_cons, List.not_mem_nil, or_false, forall_eq_or_imp, forall_eq]; exact ⟨i4.out, i5.out⟩)).mono ?_
  rintro e wA ⟨rfl, hbA⟩
  have hA := Lib.hid ((hS2.out.alloc _).below hbA)
  have hz := lineTx_size sBikes [X.bm, X.br]
  clear hbA c3 c4
  go_wp2_with fail
  refine (hwr.out _ _ _ hA.out (by have q1 := lineL_len (L sWharfage) [X.fin]; have q2 := lineL_len (L sTrucks) [X.tm, X.tr]; have q3 := lineL_len (L sBikes) [X.bm, X.br]; have e1 : (L sWharfage).length = 8 := rfl; have e2 : (L sTrucks).length = 6 := rfl; have e3 : (L sBikes).length = 5 := rfl; have z1 : sWharfage.size = 8 := rfl; have z2 : sTrucks.size = 6 := rfl; have z3 : sBikes.size = 5 := rfl; have z4 : sSats.size = 10 := rfl; simp only [List.length_append, List.length_cons, List.length_nil] at *; omega)).mono ?_
  rintro e wB ⟨⟨v, rfl⟩, hB1⟩
  rw [L_lineTx] at hB1
  have hS3 := Lib.hid hB1
  clear hA hB1 hS2 hz
  have cb := (hbx.out _ hS3.out.on).2
  have c5 := cb 5 _ rfl
  clear cb
  go_wp2_with fail
  refine (line_lay sSats [(X.sats.length : Int)] _ (by decide) (by simp) (by simp only [List.mem_cons, List.not_mem_nil, or_false, forall_eq_or_imp, forall_eq]; exact i6.out)).mono ?_
  rintro e wA ⟨rfl, hbA⟩
  have hA := Lib.hid ((hS3.out.alloc _).below hbA)
  have hz := lineTx_size sSats [(X.sats.length : Int)]
  clear hbA c5
  go_wp2_with fail
  refine (hwr.out _ _ _ hA.out (by have q1 := lineL_len (L sWharfage) [X.fin]; have q2 := lineL_len (L sTrucks) [X.tm, X.tr]; have q3 := lineL_len (L sBikes) [X.bm, X.br]; have e1 : (L sWharfage).length = 8 := rfl; have e2 : (L sTrucks).length = 6 := rfl; have e3 : (L sBikes).length = 5 := rfl; have z1 : sWharfage.size = 8 := rfl; have z2 : sTrucks.size = 6 := rfl; have z3 : sBikes.size = 5 := rfl; have z4 : sSats.size = 10 := rfl; simp only [List.length_append, List.length_cons, List.length_nil] at *; omega)).mono ?_
  rintro e wB ⟨⟨v, rfl⟩, hB1⟩
  rw [L_lineTx] at hB1
  have hS4 := Lib.hid hB1
  clear hA hB1 hS3 hz
  rw [List.nil_append, ← e4.out] at hS4
  have cb := (hbx.out _ hS4.out.on).2
  have c5 := cb 5 _ rfl
  clear cb
  go_wp2_with fail
  clear c5
  go_loopw [40] (fun i wr => ∃ k : Nat, k ≤ X.sats.length ∧ i = .int .i64 k ∧ SB W B (p4 X ++ (X.sats.take k).flatMap satL) wr) (fun i _ => X.sats.length - (intOf i).toNat)
  case atStart => exact ⟨0, Nat.zero_le _, rfl, by rw [show (X.sats.take 0).flatMap satL = [] from rfl, List.append_nil]; exact hS4.out⟩
  case round =>
    clear hS4
    obtain ⟨k, hk, rfl, hSB⟩ := hrel
    by_cases hlt : k < X.sats.length
    · obtain ⟨b, off, rfl, hc1, hc2⟩ := (hH1.out _ hSB.on).sat hlt
      have HS := flat_snoc satL X.sats hlt
      have hf := hfs.out k
      have htk : (X.sats.take k).length ≤ 12 := by rw [List.length_take]; omega
      obtain ⟨⟨v1, v2⟩, v3, v4⟩ := hsat.out X.sats[k] (List.getElem_mem hlt)
      have j1 := Lib.hid (i64_of v1 v2)
      have j2 := Lib.hid (i64_of v3 v4)
      rw [show satL X.sats[k] = lineL [] [X.sats[k].room, X.sats[k].hold] from rfl] at HS
      clear v1 v2 v3 v4
      generalize X.sats[k] = x at *
      generalize (X.sats.take k).flatMap satL = F at *
      have hF : (p4 X ++ F).length ≤ 1000 := by rw [List.length_append]; omega
      replace HS := Lib.hid HS
      have hA0 := Lib.hid (hSB.alloc (.cells #[.int .i64 x.room, .int .i64 x.hold] 62))
      clear hSB hf htk
      go_wp2_with fail
      refine (line_layG ⟨#[]⟩ [x.room, x.hold] (wr.alloc (.cells #[.int .i64 x.room, .int .i64 x.hold] 62)) (wr.heap.size + 1) (by simp) (by decide) (by simp) (by simp only [List.mem_cons, List.not_mem_nil, or_false, forall_eq_or_imp, forall_eq]; exact ⟨j1.out, j2.out⟩)).mono ?_
      rintro e wA ⟨rfl, hbA⟩
      have hA := Lib.hid ((hA0.out.alloc _).below hbA)
      have hz := lineTx_size ⟨#[]⟩ [x.room, x.hold]
      have hz0 : (⟨#[]⟩ : ByteArray).size = 0 := rfl
      rw [hz0] at hz
      simp only [List.length_cons, List.length_nil] at hz
      clear hbA
      go_wp2_with fail
      refine (hwr.out _ _ _ hA.out (by omega)).mono ?_
      rintro e wB ⟨⟨v, rfl⟩, hB1⟩
      rw [L_lineTx, show L (⟨#[]⟩ : ByteArray) = [] from rfl, List.append_assoc] at hB1
      replace hB1 := Lib.hid hB1
      clear hA hz hz0 hA0
      go_wp2_with fail
      go_roundw
      case rel => exact ⟨k + 1, by omega, by go_num, by rw [HS.out]; exact hB1.out⟩
      case measure => simp [intOf]; omega
    · obtain rfl : k = X.sats.length := by omega
      rw [List.take_length, ← e5.out] at hSB
      have hf := hfs.out X.sats.length
      rw [List.take_length] at hf
      have l5 : (p5 X).length ≤ 1000 := by rw [e5.out, List.length_append]; omega
      have hS5 := Lib.hid hSB
      clear hSB hlt hk hf hfs hsat hH1 l4
      have cb := (hbx.out _ hS5.out.on).2
      have c6 := cb 6 _ rfl
      clear cb
      go_wp2_with fail
      refine (line_lay sCusts [(X.custs.length : Int)] _ (by decide) (by simp) (by simp only [List.mem_cons, List.not_mem_nil, or_false, forall_eq_or_imp, forall_eq]; exact i7.out)).mono ?_
      rintro e wA ⟨rfl, hbA⟩
      have hA := Lib.hid ((hS5.out.alloc _).below hbA)
      have hz := lineTx_size sCusts [(X.custs.length : Int)]
      clear hbA c6
      go_wp2_with fail
      refine (hwr.out _ _ _ hA.out (by have z4 : sCusts.size = 9 := rfl; simp only [List.length_cons, List.length_nil] at hz; omega)).mono ?_
      rintro e wB ⟨⟨v, rfl⟩, hB1⟩
      rw [L_lineTx] at hB1
      have hS6 := Lib.hid hB1
      clear hA hB1 hS5 hz
      rw [← e6.out] at hS6
      have cb := (hbx.out _ hS6.out.on).2
      have c6 := cb 6 _ rfl
      clear cb
      have l6 : (p6 X).length ≤ 1100 := by rw [e6.out, List.length_append]; omega
      go_wp2_with fail
      clear c6
      go_loopw [61] (fun i wr => ∃ k : Nat, k ≤ X.custs.length ∧ i = .int .i64 k ∧ SB W B (p6 X ++ (X.custs.take k).flatMap custL) wr) (fun i _ => X.custs.length - (intOf i).toNat)
      case atStart => exact ⟨0, Nat.zero_le _, rfl, by rw [show (X.custs.take 0).flatMap custL = [] from rfl, List.append_nil]; exact hS6.out⟩
      case round =>
        clear hS6
        obtain ⟨k, hk, rfl, hSB⟩ := hrel
        by_cases hlt : k < X.custs.length
        · obtain ⟨b, off, rfl, hc1, hc2, hc3, hc4⟩ := (hH2.out _ hSB.on).cust hlt
          have HS := flat_snoc custL X.custs hlt
          have hf := hfc.out k
          have htk : (X.custs.take k).length ≤ 48 := by rw [List.length_take]; omega
          obtain ⟨⟨v1, v2⟩, ⟨v3, v4⟩, ⟨v5, v6⟩, v7, v8⟩ := hcust.out X.custs[k] (List.getElem_mem hlt)
          have j1 := Lib.hid (i64_of (n := X.custs[k].load) (by omega) v2)
          have j2 := Lib.hid (i64_of v3 v4)
          have j3 := Lib.hid (i64_of (n := X.custs[k].close) (by omega) v6)
          have j4 := Lib.hid (i64_of v7 v8)
          rw [show custL X.custs[k] = lineL [] [X.custs[k].load, X.custs[k].opn, X.custs[k].close, X.custs[k].stay] from rfl] at HS
          clear v1 v2 v3 v4 v5 v6 v7 v8
          generalize X.custs[k] = x at *
          generalize (X.custs.take k).flatMap custL = F at *
          have hF : (p6 X ++ F).length ≤ 6000 := by rw [List.length_append]; omega
          replace HS := Lib.hid HS
          have hA0 := Lib.hid (hSB.alloc (.cells #[.int .i64 x.load, .int .i64 x.opn, .int .i64 x.close, .int .i64 x.stay] 66))
          clear hSB hf htk
          go_wp2_with fail
          refine (line_layG ⟨#[]⟩ [x.load, x.opn, x.close, x.stay] (wr.alloc (.cells #[.int .i64 x.load, .int .i64 x.opn, .int .i64 x.close, .int .i64 x.stay] 66)) (wr.heap.size + 1) (by simp) (by decide) (by simp) (by simp only [List.mem_cons, List.not_mem_nil, or_false, forall_eq_or_imp, forall_eq]; exact ⟨j1.out, j2.out, j3.out, j4.out⟩)).mono ?_
          rintro e wA ⟨rfl, hbA⟩
          have hA := Lib.hid ((hA0.out.alloc _).below hbA)
          have hz := lineTx_size ⟨#[]⟩ [x.load, x.opn, x.close, x.stay]
          have hz0 : (⟨#[]⟩ : ByteArray).size = 0 := rfl
          rw [hz0] at hz
          simp only [List.length_cons, List.length_nil] at hz
          clear hbA
          go_wp2_with fail
          refine (hwr.out _ _ _ hA.out (by omega)).mono ?_
          rintro e wB ⟨⟨v, rfl⟩, hB1⟩
          rw [L_lineTx, show L (⟨#[]⟩ : ByteArray) = [] from rfl, List.append_assoc] at hB1
          replace hB1 := Lib.hid hB1
          clear hA hz hz0 hA0
          go_wp2_with fail
          go_roundw
          case rel => exact ⟨k + 1, by omega, by go_num, by rw [HS.out]; exact hB1.out⟩
          case measure => simp [intOf]; omega
        · obtain rfl : k = X.custs.length := by omega
          rw [List.take_length, ← e7.out] at hSB
          have hf := hfc.out X.custs.length
          rw [List.take_length] at hf
          have l7 : (p7 X).length ≤ 6000 := by rw [e7.out, List.length_append]; omega
          have hS7 := Lib.hid hSB
          have hr1 := Lib.hid (fun (l : List UInt8) (w : World) (h : SB W B l w) (hl : l.length ≤ 1000000) => rows_show sCost oa oc X.cost W H3.out W B (Below.refl _ _) (by have := hB.out; omega) l w h hl (by decide) lo61 ro61.out ron.out)
          have hr2 := Lib.hid (fun (l : List UInt8) (w : World) (h : SB W B l w) (hl : l.length ≤ 1000000) => rows_show sTime ta tc X.time W H4.out W B (Below.refl _ _) (by have := hB.out; omega) l w h hl (by decide) lt61 rt61.out rtn.out)
          clear hSB hlt hk hf hfc hcust hH2 l5 l6
          have cb := (hbx.out _ hS7.out.on).2
          have c7 := cb 7 _ rfl
          clear cb
          go_wp2_with fail
          refine (hr1.out _ _ hS7.out (by omega)).mono ?_
          rintro e wB ⟨⟨v, rfl⟩, hB1⟩
          rw [← e8.out] at hB1
          have hS8 := Lib.hid hB1
          have l8 : (p8 X).length ≤ 96000 := by rw [e8.out, List.length_append]; omega
          clear hB1 hS7 c7
          have cb := (hbx.out _ hS8.out.on).2
          have c8 := cb 8 _ rfl
          clear cb
          go_wp2_with fail
          refine (hr2.out _ _ hS8.out (by omega)).mono ?_
          rintro e wC ⟨⟨v, rfl⟩, hB1⟩
          rw [← e9.out] at hB1
          have hS9 := Lib.hid hB1
          have l9 : (p9 X).length ≤ 186000 := by rw [e9.out, List.length_append]; omega
          clear hB1 hS8 c8
          go_wp2_with fail
          refine (line_name sEnd _ (by decide)).mono ?_
          rintro e wA ⟨rfl, hbA⟩
          have hA := Lib.hid (hS9.out.below hbA)
          have hz := lineTx_size sEnd []
          have hz0 : sEnd.size = 3 := rfl
          simp only [List.length_nil] at hz
          clear hbA
          go_wp2_with fail
          refine (hwr.out _ _ _ hA.out (by omega)).mono ?_
          rintro e wD ⟨⟨v, rfl⟩, hB1⟩
          rw [L_lineTx, ← eE.out] at hB1
          have hSE := Lib.hid hB1
          clear hB1 hA hS9 hz hz0
          go_wp2_with fail
          refine (b_string B B (showI X) _ hSE.out.is hSE.out.le).mono ?_
          rintro e wE ⟨rfl, hbE⟩
          have hfin := BW.out
          have hW9 : Below g0 w wE := (hfin.go (by rw [hB.out]; exact hSE.out.on.trans hbE)).b
          clear hbE
          replace hW9 := Lib.hid hW9
          go_wp2_with fail
          go_ret
          exact ⟨rfl, by first | exact hW9.out | (rw [hg0.out]; exact hW9.out)⟩
end Go.Proofs.Ytljcpgeggbbmfaa
