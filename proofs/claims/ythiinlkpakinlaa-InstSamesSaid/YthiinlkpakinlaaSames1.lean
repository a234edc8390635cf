/-
  Two instances that Make has made, each in a box: what is kept (layer 11, InstSames).
-/
import Derived.Test.YthiinlkpakinlaaReg2
import Derived.Test.YthiinlkpakinlaaSpoil2
import Derived.Deep.MidRow
namespace Go.Proofs.Ythiinlkpakinlaa
set_option linter.unusedVariables false
set_option linter.unusedSimpArgs false
open Go.RowKit
/-- all blocks of U stand as they stood, but for boxes of instances. -/
def Agree (U w : World) : Prop := ∀ (k : Nat) (cur : Array Value) (T : TypeId), U.heap[k]? = some (.cells cur T (0, 0)) → T ≠ 28 → w.heap[k]? = U.heap[k]?
theorem Agree.refl (U : World) : Agree U U := fun _ _ _ _ _ => rfl
theorem Agree.below {U w w' : World} (h : Agree U w) (hb : Below w.heap.size w w') : Agree U w' := fun k cur T hk hT => by
  have := (h k cur T hk hT).trans hk
  exact (hb.block k (heap_lt this)).trans (h k cur T hk hT)
theorem Agree.grown {U w w' : World} {g : Nat} (h : Agree U w) (hg : w.grownBy w' (some g)) (hb : ∀ cur T, U.heap[g]? = some (.cells cur T (0, 0)) → T = 28) : Agree U w' := fun k cur T hk hT => by
  have := (h k cur T hk hT).trans hk
  refine (hg.block k (heap_lt this) (fun e => ?_)).trans (h k cur T hk hT)
  obtain rfl := Option.some.inj e
  exact hT (hb cur T hk)
theorem own_agree {U w : World} {B e s n : Nat} {v : Value} {xs : List Value} (h : U.ownsRow B e s v n xs) (he : e ≠ 28) (ha : Agree U w) : w.ownsRow B e s v n xs := by
  refine ⟨h.1, ?_⟩
  rcases h.2 with h0 | ⟨g, cap, cur, a, c, d, e1⟩
  · exact .inl h0
  · exact .inr ⟨g, cap, cur, a, c, (ha g cur _ d he).trans d, e1⟩
theorem mat_agree {U w : World} {B m : Nat} {v : Value} {ls : List (List Int)} {gs : List Nat} (h : MatOwn B U v m ls gs) (ha : Agree U w) : MatOwn B w v m ls gs :=
  ⟨h.len, h.inc, fun j g r hj hl => by
    obtain ⟨a, b, c⟩ := h.rows j g r hj hl
    exact ⟨a, b, (ha g _ _ c (by decide)).trans c⟩, own_agree h.own (by decide) ha⟩
theorem MadeOwn.agree {U w : World} {B : Nat} {X : InstD} {h : HdD} {g7 g8 : List Nat} (H : MadeOwn B U X h g7 g8) (ha : Agree U w) : MadeOwn B w X h g7 g8 :=
  ⟨own_agree H.sats (by decide) ha, own_agree H.custs (by decide) ha, mat_agree H.cost ha, mat_agree H.time ha, H.apart, H.tabs⟩
theorem MadeOwn.box {w w' : World} {B g : Nat} {X : InstD} {h : HdD} {g7 g8 : List Nat} {cur : Array Value} (H : MadeOwn B w X h g7 g8) (hB : w.heap[g]? = some (.cells cur 28 (0, 0))) (hg : w.grownBy w' (some g)) : MadeOwn B w' X h g7 g8 :=
  H.agree ((Agree.refl w).grown hg (fun c T hc => by rw [hB] at hc; injection hc with hc; injection hc with _ ht; exact ht.symm))
/-- both boxes, and what lies behind them. -/
structure AB (w3 U : World) (X : InstD) (ha hb : HdD) (ga gb Ba : Nat) (a7 a8 b7 b8 : List Nat) (w : World) : Prop where
  ma : MadeOwn Ba U X ha a7 a8
  ag : Agree U w
  us : w3.heap.size ≤ U.heap.size
  uw : U.heap.size ≤ w.heap.size
  mb : MadeOwn U.heap.size w X hb b7 b8
  xa : w.heap[ga]? = some (.cells (instC X ha) 28 (0, 0))
  xb : w.heap[gb]? = some (.cells (instC X hb) 28 (0, 0))
  na : w3.heap.size ≤ ga
  nb : w3.heap.size ≤ gb
  ne : ga ≠ gb
  xg : ∀ cur T, U.heap[gb]? = some (.cells cur T (0, 0)) → T = 28
  bel : Below w3.heap.size w3 w
/-- the same while the boxes are still empty. -/
structure AB0 (w3 U : World) (X : InstD) (ha hb : HdD) (ga gb Ba : Nat) (a7 a8 b7 b8 : List Nat) (w : World) : Prop where
  ma : MadeOwn Ba U X ha a7 a8
  ag : Agree U w
  us : w3.heap.size ≤ U.heap.size
  uw : U.heap.size ≤ w.heap.size
  mb : MadeOwn U.heap.size w X hb b7 b8
  xa : w.heap[ga]? = some (.cells #[.int .i64 0, .int .i64 0, .int .i64 0, .int .i64 0, .int .i64 0, .slice none 0 0, .slice none 0 0, .slice none 0 0, .slice none 0 0] 28 (0, 0))
  xb : w.heap[gb]? = some (.cells #[.int .i64 0, .int .i64 0, .int .i64 0, .int .i64 0, .int .i64 0, .slice none 0 0, .slice none 0 0, .slice none 0 0, .slice none 0 0] 28 (0, 0))
  na : w3.heap.size ≤ ga
  nb : w3.heap.size ≤ gb
  ne : ga ≠ gb
  ya : ∀ cur T, U.heap[ga]? = some (.cells cur T (0, 0)) → T = 28
  xg : ∀ cur T, U.heap[gb]? = some (.cells cur T (0, 0)) → T = 28
  bel : Below w3.heap.size w3 w
theorem below_box {w3 w w' : World} {g : Nat} (h : Below w3.heap.size w3 w) (hg : w.grownBy w' (some g)) (hn : w3.heap.size ≤ g) : Below w3.heap.size w3 w' :=
  h.trans ⟨hg.os, hg.tape, hg.output, hg.size, fun k hk => hg.block k (Nat.lt_of_lt_of_le hk h.size) (fun e => by have := Option.some.inj e; omega)⟩
theorem one9 (X : InstD) (h : HdD) : (instC X h).all (·.oneCell') = true := by kernel_rfl
theorem size9 (X : InstD) (h : HdD) : ((Try.prog.info? 28).map (·.size)) = some (instC X h).size := by kernel_rfl
@[irreducible] def fillBox (w : World) (g : Nat) (cs : Array Value) : World := w.setCells g 0 cs.toList
theorem fill9 (w : World) (g : Nat) (X : InstD) (h : HdD) (hx : w.heap[g]? = some (.cells #[.int .i64 0, .int .i64 0, .int .i64 0, .int .i64 0, .int .i64 0, .slice none 0 0, .slice none 0 0, .slice none 0 0, .slice none 0 0] 28 (0, 0))) : (fillBox w g (instC X h)).heap[g]? = some (.cells (instC X h) 28 (0, 0)) ∧ w.grownBy (fillBox w g (instC X h)) (some g) := by
  unfold fillBox
  exact set9 w g 28 _ _ _ _ _ _ _ _ _ (.int .i64 X.fin) (.int .i64 X.tm) (.int .i64 X.tr) (.int .i64 X.bm) (.int .i64 X.br) (.slice h.sa X.sats.length h.sc) (.slice h.ca X.custs.length h.cc) (.slice h.oa X.cost.length h.oc) (.slice h.ta X.time.length h.tc) hx
theorem wp_fill {P : Program} {op : Oper} {a : Act} {w : World} {K : Act → World → Prop} {Q : Exit → Act → World → Prop} (ty : TypeId) (x y : Operand) (ho : op.op = .store ty x y) (g : Nat) (X : InstD) (h : HdD) (hx : a.eval x = .pointer (some ⟨g, 0, none⟩)) (hy : a.eval y = .agg (instC X h))
    (ht : w.heap[g]? = some (.cells #[.int .i64 0, .int .i64 0, .int .i64 0, .int .i64 0, .int .i64 0, .slice none 0 0, .slice none 0 0, .slice none 0 0, .slice none 0 0] 28 (0, 0))) (hi : (P.info? ty).map (·.size) = some (instC X h).size) (hK : K (a.put op.dst undef) (fillBox w g (instC X h))) : op.wp P a w K Q := by
  unfold fillBox at hK
  have hth : w.there g 0 9 := there9 ht
  exact wp_store_mid ty x y ho g 0 (instC X h) hx hy hth hi (one9 X h) hK
/-- both boxes are filled. -/
theorem AB0.fill {w3 U : World} {X : InstD} {ha hb : HdD} {ga gb Ba : Nat} {a7 a8 b7 b8 : List Nat} {w : World} (H : AB0 w3 U X ha hb ga gb Ba a7 a8 b7 b8 w) :
    (fillBox w ga (instC X ha)).heap[gb]? = some (.cells #[.int .i64 0, .int .i64 0, .int .i64 0, .int .i64 0, .int .i64 0, .slice none 0 0, .slice none 0 0, .slice none 0 0, .slice none 0 0] 28 (0, 0)) ∧ AB w3 U X ha hb ga gb Ba a7 a8 b7 b8 (fillBox (fillBox w ga (instC X ha)) gb (instC X hb)) := by
  obtain ⟨s1, s2⟩ := fill9 w ga X ha H.xa
  have x1 : (fillBox w ga (instC X ha)).heap[gb]? = some (.cells #[.int .i64 0, .int .i64 0, .int .i64 0, .int .i64 0, .int .i64 0, .slice none 0 0, .slice none 0 0, .slice none 0 0, .slice none 0 0] 28 (0, 0)) := (s2.block gb (heap_lt H.xb) (fun e => H.ne (Option.some.inj e).symm)).trans H.xb
  obtain ⟨t1, t2⟩ := fill9 (fillBox w ga (instC X ha)) gb X hb x1
  refine ⟨x1, H.ma, (H.ag.grown s2 H.ya).grown t2 H.xg, H.us, Nat.le_trans H.uw (Nat.le_trans s2.size t2.size), (H.mb.box H.xa s2).box x1 t2, (t2.block ga (heap_lt s1) (fun e => H.ne (Option.some.inj e))).trans s1, t1, H.na, H.nb, H.ne, H.xg, below_box (below_box H.bel s2 H.na) t2 H.nb⟩
end Go.Proofs.Ythiinlkpakinlaa
