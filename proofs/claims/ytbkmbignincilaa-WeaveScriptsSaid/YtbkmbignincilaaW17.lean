/- duetlaw11.WeaveNil. -/
import Derived.Test.YtbkmbignincilaaW16
namespace Go.Proofs.Ytbkmbignincilaa
open Go Go.VC Go.RowKit
set_option linter.unusedVariables false
set_option linter.unusedSimpArgs false
set_option maxRecDepth 100000

/-- A call: Drop of an Id, or Insert. -/
structure Op1 where
  drop : Bool
  e : El
abbrev opV (o : Op1) : Value := .agg #[.bool o.drop, .int .i64 o.e.id.t, .int .i64 o.e.id.s, .int .i64 o.e.ref.t, .int .i64 o.e.ref.s, .int .i64 o.e.rune]
abbrev cO (o : Op1) : List Value := [.bool o.drop, .int .i64 o.e.id.t, .int .i64 o.e.id.s, .int .i64 o.e.ref.t, .int .i64 o.e.ref.s, .int .i64 o.e.rune]
theorem fn4 (o : Op1) (w : World) : Ret Try.prog 4 #[opV o] w fun v W => Ext w W ∧ v = .bool true := by
  refine Ret.of_vc tab_ok Try.func4 rfl Try.ntmps4 rfl (Nat.le_of_ble_eq_true rfl) Try.call4 ?_
  conv => whnf
  intro W hW
  have hb := hW.at_
  have hE := hW.e
  clear hW
  generalize w.heap.size = b1 at hb ⊢
  conv => whnf
  refine ⟨cI o.e.id, rfl, lds hb rfl rfl, ?_⟩
  conv => whnf
  refine (fn18n o.e.id _).mono ?_
  rintro _ W2 ⟨he, rfl⟩
  replace hb := he.at_ hb
  replace hE := hE.tr he
  conv => whnf
  refine ⟨cI o.e.id, rfl, lds hb rfl rfl, ?_⟩
  conv => whnf
  refine ⟨cI o.e.ref, rfl, lds hb rfl rfl, ?_⟩
  conv => whnf
  refine ⟨.int .i64 o.e.rune, ld hb rfl rfl, ?_⟩
  conv => whnf
  refine (fn16n o.e _).mono ?_
  rintro _ W3 ⟨he, rfl⟩
  replace hb := he.at_ hb
  replace hE := hE.tr he
  conv => whnf
  intro t ht
  obtain rfl : t = true := ht.yes (by decide)
  conv => whnf
  refine ⟨cI o.e.id, rfl, lds hb rfl rfl, ?_⟩
  conv => whnf
  refine (fn14n o.e.id _).mono ?_
  rintro _ W4 ⟨he, rfl⟩
  replace hb := he.at_ hb
  replace hE := hE.tr he
  conv => whnf
  intro t ht
  obtain rfl : t = true := ht.yes (by decide)
  conv => whnf
  refine (fn21n _).mono ?_
  rintro _ Wz ⟨hwz, rfl⟩
  subst hwz
  conv => whnf
  intro t ht
  obtain rfl : t = true := ht.yes (by decide)
  conv => whnf
  refine ⟨cI o.e.ref, rfl, lds hb rfl rfl, ?_⟩
  conv => whnf
  refine (fn24n o.e.ref _).mono ?_
  rintro _ W5 ⟨he, rfl⟩
  replace hb := he.at_ hb
  replace hE := hE.tr he
  conv => whnf
  intro t ht
  obtain rfl : t = true := ht.yes (by decide)
  conv => whnf
  refine (fn26n _).mono ?_
  rintro _ Wz ⟨hwz, rfl⟩
  subst hwz
  conv => whnf
  intro t ht
  obtain rfl : t = true := ht.yes (by decide)
  conv => whnf
  refine (fn27 _).mono ?_
  rintro _ W6 ⟨he, rfl⟩
  conv => whnf
  exact ⟨hE.tr he, rfl⟩
end Go.Proofs.Ytbkmbignincilaa
