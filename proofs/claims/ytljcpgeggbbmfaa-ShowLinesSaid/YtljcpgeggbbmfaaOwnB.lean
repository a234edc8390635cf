/-
  A slice of bytes that the call made itself (out of a string, and appended to): what it holds; appending to it; the string of it (layer 13). The row of a conversion bears a mark behind its end: so it isn't the kit's 'ownsRow'.
-/
import Derived.Test.YtljcpgeggbbmfaaTextW
import Derived.Lib.AppendStr
import Derived.Lib.ConvBytes
import Derived.Lib.UnsafeStr
import Derived.Laws.IdiomStrings
namespace Go.Proofs.Ytljcpgeggbbmfaa
set_option linter.unusedVariables false
set_option linter.unusedSimpArgs false
open Go.RowKit
abbrev bC (l : List UInt8) : List Value := Lib.byteCells l
/-- the slice v holds the bytes l, in a row from block B on; none of its spare cells is frozen. -/
def OwnB (w : World) (B : Nat) (v : Value) (l : List UInt8) : Prop :=
  ∃ (g cap : Nat) (cur : Array Value) (fz : Nat × Nat), v = .slice (some ⟨g, 0, none⟩) l.length cap ∧ B ≤ g ∧ w.heap[g]? = some (.cells cur 5 fz) ∧ (∀ j, l.length ≤ j → j < cur.size → ¬ (fz.1 ≤ j ∧ j < fz.2)) ∧ l.length ≤ cap ∧ cap ≤ maxLen ∧ cur.size = cap ∧ cur.toList.take l.length = bC l
theorem info_u8 : (Try.prog.info? 5).map (fun i => (i.zero, i.size, i.bytes)) = some (some (.int .u8 0), 1, 1) := by kernel_rfl
/-- storing cells of which none is frozen. -/
theorem storeB (P : Program) (g o : Nat) (t : TypeId) (fz : Nat × Nat) : ∀ (vs : List Value) (i : Nat) (cur : Array Value) (w : World), w.heap[g]? = some (.cells cur t fz) → (∀ j, o + i ≤ j → j < cur.size → ¬ (fz.1 ≤ j ∧ j < fz.2)) → o + i + vs.length ≤ cur.size → (∀ v ∈ vs, v.oneCell' = true) →
    (storeCells ⟨g, o, none⟩ vs i).run P w = .ok () (w.setRow g (cur.toList.take (o + i) ++ vs ++ cur.toList.drop (o + i + vs.length)).toArray)
  | [], i, cur, w, hg, _, _, _ => by
    simp only [storeCells, List.append_nil, List.length_nil, Nat.add_zero, List.take_append_drop, Array.toArray_toList]
    rw [setRow_self w g cur t fz hg]
    rfl
  | v :: vs, i, cur, w, hg, hfz, hl, h1 => by
    have hin : o + i < cur.size := by simp at hl; omega
    have hadd : (⟨g, o, none⟩ : Addr).add i = ⟨g, o + i, none⟩ := by unfold Addr.add; split <;> simp_all
    have hcell : w.cell? ⟨g, o + i, none⟩ = some cur[o + i] := by simp [World.cell?, hg, hin]
    have hfro : w.frozen? ⟨g, o + i, none⟩ = false := by
      have h0 := hfz (o + i) (Nat.le_refl _) hin
      obtain ⟨lo, up⟩ := fz
      simp only [World.frozen?, hg, Bool.and_eq_false_iff, decide_eq_false_iff_not]
      dsimp only at h0
      omega
    have hst : (store ((⟨g, o, none⟩ : Addr).add i) v).run P w = .ok () (w.setRow g (cur.setIfInBounds (o + i) v)) := by
      rw [hadd, run_store P w _ v _ (h1 v (by simp)), hcell]
      simp [hfro, setCell_eq_setRow w g (o + i) cur t fz v hg]
    have ih := storeB P g o t fz vs (i + 1) (cur.setIfInBounds (o + i) v) (w.setRow g (cur.setIfInBounds (o + i) v)) (setRow_heap w g cur _ t _ hg) (fun j hj hj2 => hfz j (by omega) (by simpa using hj2)) (by simp at hl ⊢; omega) (fun x hx => h1 x (by simp [hx]))
    simp only [storeCells, Sem.run_bind, hst, Result.andThen_ok, ih, setRow_setRow]
    congr 3
    have e := list_seg_step cur.toList (o + i) v vs (by simp at hl ⊢; omega)
    simpa [Array.toList_setIfInBounds, Nat.add_assoc] using e
theorem bC_len (l : List UInt8) : (bC l).length = l.length := Lib.byteCells_length l
theorem bC_one (l : List UInt8) : ∀ v ∈ bC l, v.oneCell' = true := by
  intro v hv
  obtain ⟨b, _, rfl⟩ := List.mem_map.1 hv
  rfl
theorem OwnB.cells {w : World} {B : Nat} {l : List UInt8} {g cap : Nat} (h : OwnB w B (.slice (some ⟨g, 0, none⟩) l.length cap) l) : ∀ j u, (bC l)[j]? = some u → w.cell? ((⟨g, 0, none⟩ : Addr).add j) = some u := by
  obtain ⟨g', cap', cur, fz, e, _, hg, _, _, _, _, ht⟩ := h
  injection e with e1 e2 e3
  injection e1 with e1
  injection e1 with e1
  subst e1
  intro j u hj
  have hjl : j < l.length := by
    have := (List.getElem?_eq_some_iff.1 hj).1
    rwa [bC_len] at this
  rw [← ht, List.getElem?_take_of_lt hjl] at hj
  have ha : (⟨g, 0, none⟩ : Addr).add j = ⟨g, j, none⟩ := by unfold Addr.add; by_cases hz : j = 0 <;> simp [hz]
  rw [ha]
  unfold World.cell?
  rw [hg]
  dsimp only
  rw [← hj]; simp
/-- the row that an append leaves where there is room. -/
theorem OwnB.room {w : World} {B g cap : Nat} {cur : Array Value} {fz : Nat × Nat} {l k : List UInt8} (hB : B ≤ g) (hg : w.heap[g]? = some (.cells cur 5 fz)) (hfz : ∀ j, l.length ≤ j → j < cur.size → ¬ (fz.1 ≤ j ∧ j < fz.2)) (hc : l.length + k.length ≤ cap) (hm : cap ≤ maxLen) (hs : cur.size = cap) (ht : cur.toList.take l.length = bC l) :
    OwnB (w.setRow g (cur.toList.take l.length ++ bC k ++ cur.toList.drop (l.length + k.length)).toArray) B (.slice (some ⟨g, 0, none⟩) (l.length + k.length) cap) (l ++ k) := by
  refine ⟨g, cap, _, fz, by rw [List.length_append], hB, setRow_heap w g cur _ _ _ hg, ?_, by rw [List.length_append]; exact hc, hm, ?_, ?_⟩
  · intro j h1 h2
    rw [List.length_append] at h1
    refine hfz j (by omega) ?_
    simp only [List.size_toArray, List.length_append, List.length_take, List.length_drop, Array.length_toList, bC_len] at h2
    omega
  · simp only [List.size_toArray, List.length_append, List.length_take, List.length_drop, Array.length_toList, bC_len]
    omega
  · rw [ht, show bC (l ++ k) = bC l ++ bC k from Lib.byteCells_append l k, List.length_append]
    have : l.length + k.length = (bC l ++ bC k).length := by rw [List.length_append, bC_len, bC_len]
    rw [this]
    exact List.take_left
theorem OwnB.grown (w : World) (B old : Nat) (l k : List UInt8) (hB : B ≤ w.heap.size) (hm : l.length + k.length ≤ maxLen) :
    OwnB (w.drew.alloc (.cells ((bC l).toArray ++ (bC k).toArray ++ Builtin.zeroCells (Value.int .u8 0).cells (grownCap w (l.length + k.length) old 5 - (l.length + k.length))) 5)) B (.slice (some ⟨w.heap.size, 0, none⟩) (l.length + k.length) (grownCap w (l.length + k.length) old 5)) (l ++ k) := by
  have hge := grownCap_ge w (l.length + k.length) old 5
  refine ⟨w.heap.size, _, _, (0, 0), by rw [List.length_append], hB, heap_alloc_new w.drew _, fun j _ _ h => by dsimp only at h; omega, by rw [List.length_append]; exact hge, grownCap_le_maxLen w _ old _ hm, ?_, ?_⟩
  · have hz1 : (Value.int IntKind.u8 0).cells.size = 1 := rfl
    simp only [Array.size_append, List.size_toArray, size_zeroCells, hz1, bC_len]
    omega
  · rw [show bC (l ++ k) = bC l ++ bC k from Lib.byteCells_append l k, List.length_append]
    simp only [Array.toList_append]
    have : l.length + k.length = (bC l ++ bC k).length := by rw [List.length_append, bC_len, bC_len]
    rw [this]
    exact List.take_left
theorem grown_row (w : World) (g n cap : Nat) (cs : Array Value) : w.grownBy (w.setRow g cs) (Value.slice (some ⟨g, 0, none⟩) n cap).ownBlock :=
  ⟨rfl, rfl, rfl, by simp, fun k _ hk => setRow_other w g k _ (fun e => hk (by simp [Value.ownBlock, e]))⟩
theorem grown_new (w : World) (o : Obj) (r : Option Nat) : w.grownBy (w.drew.alloc o) r := ⟨rfl, rfl, rfl, by simp, fun k hk _ => heap_alloc_old w.drew o hk⟩
/-- appending a string. -/
theorem appB_str (w : World) (B : Nat) (v : Value) (l : List UInt8) (ty : TypeId) (h : OwnB w B v l) (s : ByteArray) (hb : l.length + s.size ≤ 1000000000) (hB : B ≤ w.heap.size) :
    ∃ v' w', (Builtin.append_ #[38, 9] ty #[v, .string s]).run Try.prog w = .ok v' w' ∧ OwnB w' B v' (l ++ L s) ∧ w.grownBy w' v.ownBlock := by
  obtain ⟨i, hi, he⟩ := Option.map_eq_some_iff.1 info_u8
  injection he with hz he
  injection he with hs1 hby
  have hown := h
  obtain ⟨g, cap, cur, fz, rfl, hBg, hg, hfz, hc, hm, hs, ht⟩ := h
  have hk : (L s).length = s.size := rfl
  by_cases hroom : l.length + s.size ≤ cap
  · have hf := Lib.run_firstCells_string (P := Try.prog) w 1 s
    have hst := storeB Try.prog g l.length 5 fz (Lib.strCells s) 0 cur w hg (by simpa using hfz) (by rw [Lib.strCells_length]; omega) (Lib.strCells_oneCell s)
    simp only [Nat.add_zero, Lib.strCells_length] at hst
    refine ⟨.slice (some ⟨g, 0, none⟩) (l.length + (L s).length) cap, w.setRow g (cur.toList.take l.length ++ bC (L s) ++ cur.toList.drop (l.length + (L s).length)).toArray, ?_, OwnB.room hBg hg hfz (by omega) hm hs ht, grown_row _ _ _ _ _⟩
    simp [Builtin.append_, run_underlying Try.underlying38, run_underlying Try.underlying9, sizeOf, typeInfo, hi, hs1, Builtin.lenOf, hroom, hf, Addr.add_lit, hst]
    rfl
  · have hr := Lib.run_append_grow_string (P := Try.prog) w 38 9 ty 5 i (.int .u8 0) Try.underlying38 Try.underlying9 hi hz ⟨g, 0, none⟩ l.length cap (bC l) (by rw [hs1, bC_len, Nat.mul_one]) hown.cells s (by omega) (by omega) (by rw [hby]; exact growslice_fits (by omega) (by omega))
    exact ⟨_, _, hr, OwnB.grown w B cap l (L s) hB (by unfold maxLen; omega), grown_new _ _ _⟩
/-- appending a byte that lies in memory. -/
theorem appB_one (w : World) (B : Nat) (v : Value) (l : List UInt8) (ty : TypeId) (h : OwnB w B v l) (ad : Addr) (c : UInt8) (hc : w.cell? ad = some (.int .u8 c.toNat)) (hb : l.length + 1 ≤ 1000000000) (hB : B ≤ w.heap.size) :
    ∃ v' w', (Builtin.append_ #[38, 38] ty #[v, .slice (some ad) 1 1]).run Try.prog w = .ok v' w' ∧ OwnB w' B v' (l ++ [c]) ∧ w.grownBy w' v.ownBlock := by
  obtain ⟨i, hi, he⟩ := Option.map_eq_some_iff.1 info_u8
  injection he with hz he
  injection he with hs1 hby
  have hown := h
  obtain ⟨g, cap, cur, fz, rfl, hBg, hg, hfz, hcp, hm, hs, ht⟩ := h
  have hnews : ∀ j u, (bC [c])[j]? = some u → w.cell? (ad.add j) = some u := by
    intro j u hj
    have h0 : j = 0 := by
      have := (List.getElem?_eq_some_iff.1 hj).1
      rw [bC_len] at this
      simpa using this
    subst h0
    have hu : Value.int .u8 (c.toNat : Int) = u := by simpa [bC, Lib.byteCells] using hj
    rw [← hu]
    have : ad.add 0 = ad := by unfold Addr.add; simp
    rw [this]; exact hc
  by_cases hroom : l.length + 1 ≤ cap
  · have hf := run_firstCells_some (P := Try.prog) w 1 1 ad 1 1 (bC [c]) rfl hnews
    have hst := storeB Try.prog g l.length 5 fz (bC [c]) 0 cur w hg (by simpa using hfz) (by rw [bC_len]; simp; omega) (bC_one _)
    simp only [Nat.add_zero, bC_len] at hst
    refine ⟨.slice (some ⟨g, 0, none⟩) (l.length + [c].length) cap, w.setRow g (cur.toList.take l.length ++ bC [c] ++ cur.toList.drop (l.length + [c].length)).toArray, ?_, OwnB.room hBg hg hfz hroom hm hs ht, grown_row _ _ _ _ _⟩
    simp [Builtin.append_, run_underlying Try.underlying38, sizeOf, typeInfo, hi, hs1, Builtin.lenOf, hroom, hf, Addr.add_lit]
    simp at hst
    rw [hst]
    rfl
  · have hr := run_append_grow (P := Try.prog) w 38 ty 5 i (.int .u8 0) Try.underlying38 hi hz ⟨g, 0, none⟩ l.length cap (bC l) (by rw [hs1, bC_len, Nat.mul_one]) hown.cells ad 1 1 (bC [c]) (by rw [hs1]; rfl) hnews (by omega) (by omega) (by rw [hby]; exact growslice_fits (by omega) (by omega))
    exact ⟨_, _, hr, OwnB.grown w B cap l [c] hB (by unfold maxLen; simp; omega), grown_new _ _ _⟩
section
variable {w : World} {ops : Array Oper} {rest : List Oper} {o : Oper} {a : Act} {Q : Exit → Act → World → Prop}
theorem wpB_str (hgd : o.guard = none) (sl x : Operand) (ho : o.op = .call { callee := .builtin .append, args := #[sl, x], argTypes := #[38, 9] }) (B : Nat) (v : Value) (l : List UInt8) (hs : a.eval sl = v) (h : OwnB w B v l) (s : ByteArray) (hx : a.eval x = .string s) (hb : l.length + s.size ≤ 1000000000) (hB : B ≤ w.heap.size)
    (K : ∀ v' w', OwnB w' B v' (l ++ L s) → w.grownBy w' v.ownBlock → wpList Try.prog ops Q rest (a.put o.dst v') w') : wpList Try.prog ops Q (o :: rest) a w := by
  refine wpList_plain hgd fun K0 hK => ?_
  obtain ⟨v', w', hr, h2, h3⟩ := appB_str w B v l o.type h s hb hB
  unfold Oper.wp execOp
  simp only [ho, resolve, invoke, builtin, Sem.run_bind, Sem.run_pure, Result.andThen_ok, List.map_toArray, List.map_cons, List.map_nil, hs, hx, hr]
  exact hK _ _ (K v' w' h2 h3)
theorem wpB_one (hgd : o.guard = none) (sl x : Operand) (ho : o.op = .call { callee := .builtin .append, args := #[sl, x], argTypes := #[38, 38] }) (B : Nat) (v : Value) (l : List UInt8) (hs : a.eval sl = v) (h : OwnB w B v l) (ad : Addr) (c : UInt8) (hx : a.eval x = .slice (some ad) 1 1) (hc : w.cell? ad = some (.int .u8 c.toNat)) (hb : l.length + 1 ≤ 1000000000) (hB : B ≤ w.heap.size)
    (K : ∀ v' w', OwnB w' B v' (l ++ [c]) → w.grownBy w' v.ownBlock → wpList Try.prog ops Q rest (a.put o.dst v') w') : wpList Try.prog ops Q (o :: rest) a w := by
  refine wpList_plain hgd fun K0 hK => ?_
  obtain ⟨v', w', hr, h2, h3⟩ := appB_one w B v l o.type h ad c hc hb hB
  unfold Oper.wp execOp
  simp only [ho, resolve, invoke, builtin, Sem.run_bind, Sem.run_pure, Result.andThen_ok, List.map_toArray, List.map_cons, List.map_nil, hs, hx, hr]
  exact hK _ _ (K v' w' h2 h3)
end
theorem OwnB.below {w w' : World} {B : Nat} {v : Value} {l : List UInt8} (h : OwnB w B v l) (hb : Below w.heap.size w w') : OwnB w' B v l := by
  obtain ⟨g, cap, cur, fz, e, hBg, hg, rest⟩ := h
  exact ⟨g, cap, cur, fz, e, hBg, (hb.block g (heap_lt hg)).trans hg, rest⟩
theorem OwnB.own {w : World} {B : Nat} {v : Value} {l : List UInt8} (h : OwnB w B v l) {k : Nat} (hk : v.ownBlock = some k) : B ≤ k := by
  obtain ⟨g, cap, cur, fz, rfl, hBg, _⟩ := h
  simp [Value.ownBlock] at hk
  omega
theorem OwnB.val {w : World} {B : Nat} {v : Value} {l : List UInt8} (h : OwnB w B v l) : ∃ g cap, v = .slice (some ⟨g, 0, none⟩) l.length cap := by
  obtain ⟨g, cap, cur, fz, rfl, _⟩ := h
  exact ⟨g, cap, rfl⟩
/-- a string's bytes, made anew. -/
theorem OwnB.start (w : World) (s : ByteArray) (hs : s.size ≤ 1000000000) : OwnB (Lib.bytesWorld w 5 s) w.heap.size (.slice (some ⟨w.heap.size, 0, none⟩) s.size (grownCap w s.size 0 5)) (L s) := by
  have hge := grownCap_ge w s.size 0 5
  have hsz : (Lib.bytesCells w 5 s).size = grownCap w s.size 0 5 := by
    unfold Lib.bytesCells
    rw [Array.size_append, Array.size_replicate, Array.size_map, show s.data.size = s.size from rfl]; omega
  refine ⟨w.heap.size, _, _, _, rfl, Nat.le_refl _, Lib.bytesWorld_at_new w 5 s, fun j _ hj h => ?_, hge, grownCap_le_maxLen w _ 0 _ (by unfold maxLen; omega), hsz, ?_⟩
  · dsimp only at h; omega
  · unfold Lib.bytesCells
    rw [Array.toList_append, Array.toList_map]
    have : (L s).length = (s.data.toList.map fun b => Value.int .u8 b.toNat).length := by rw [List.length_map]
    rw [this]
    exact List.take_left
theorem below_bytes (w : World) (s : ByteArray) : Below w.heap.size w (Lib.bytesWorld w 5 s) :=
  ⟨rfl, rfl, rfl, by rw [Lib.bytesWorld_size]; omega, fun k hk => Lib.bytesWorld_at_old w 5 s k hk⟩
theorem conv_bytes (s : ByteArray) (w : World) : (convert 9 38 (.string s)).run Try.prog w = .ok (.slice (some ⟨w.heap.size, 0, none⟩) s.size (grownCap w s.size 0 5)) (Lib.bytesWorld w 5 s) :=
  Lib.run_convert_string_bytes w 9 38 5 s Try.underlying9 Try.underlying38 Try.underlying5
theorem conv_back {w : World} {B g cap : Nat} {l : List UInt8} (h : OwnB w B (.slice (some ⟨g, 0, none⟩) l.length cap) l) : (convert 38 9 (.slice (some ⟨g, 0, none⟩) l.length cap)).run Try.prog w = .ok (.string ⟨l.toArray⟩) w :=
  run_convert_bytes_back (P := Try.prog) w 38 9 5 ⟨g, 0, none⟩ cap l Try.underlying38 Try.underlying5 Try.underlying9 (fun j hj => by
    refine h.cells j _ ?_
    simp [bC, Lib.byteCells, hj])
end Go.Proofs.Ytljcpgeggbbmfaa
