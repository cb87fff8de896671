/- The evaluator's tables of this seat, by program. -/
import Derived.Test.YtlmmgblghgmgeaaDoorProg
import Derived.Test.YtlmmgblghgmgeaaDoorEv4
import Derived.KernelRfl
namespace Go.Proofs.YtlmmgblghgmgeaaDoor
open Go Ev

@[simp] theorem aggT0 : Ev.aggT Tryd.prog 0 = some Bool.false := by kernel_rfl
@[simp] theorem tsz0 : Ev.tsz Tryd.prog 0 = some 1 := by kernel_rfl
@[simp] theorem tbytes0 : Ev.tbytes Tryd.prog 0 = some 0 := by kernel_rfl
@[simp] theorem zeroOf0 : Ev.zeroOf Tryd.prog 0 = some Ev.AV.undef := by kernel_rfl
@[simp] theorem aggT1 : Ev.aggT Tryd.prog 1 = some Bool.false := by kernel_rfl
@[simp] theorem tsz1 : Ev.tsz Tryd.prog 1 = some 1 := by kernel_rfl
@[simp] theorem tbytes1 : Ev.tbytes Tryd.prog 1 = some 8 := by kernel_rfl
@[simp] theorem zeroOf1 : Ev.zeroOf Tryd.prog 1 = some Ev.AV.fnil := by kernel_rfl
@[simp] theorem aggT2 : Ev.aggT Tryd.prog 2 = some Bool.false := by kernel_rfl
@[simp] theorem tsz2 : Ev.tsz Tryd.prog 2 = some 1 := by kernel_rfl
@[simp] theorem tbytes2 : Ev.tbytes Tryd.prog 2 = some 8 := by kernel_rfl
@[simp] theorem zeroOf2 : Ev.zeroOf Tryd.prog 2 = some (Ev.AV.int Go.IntKind.i64 0) := by kernel_rfl
@[simp] theorem aggT3 : Ev.aggT Tryd.prog 3 = some Bool.false := by kernel_rfl
@[simp] theorem tsz3 : Ev.tsz Tryd.prog 3 = some 1 := by kernel_rfl
@[simp] theorem tbytes3 : Ev.tbytes Tryd.prog 3 = some 8 := by kernel_rfl
@[simp] theorem zeroOf3 : Ev.zeroOf Tryd.prog 3 = some (Ev.AV.int Go.IntKind.i64 0) := by kernel_rfl
@[simp] theorem aggT4 : Ev.aggT Tryd.prog 4 = some Bool.false := by kernel_rfl
@[simp] theorem tsz4 : Ev.tsz Tryd.prog 4 = some 1 := by kernel_rfl
@[simp] theorem tbytes4 : Ev.tbytes Tryd.prog 4 = some 1 := by kernel_rfl
@[simp] theorem zeroOf4 : Ev.zeroOf Tryd.prog 4 = some (Ev.AV.bool Bool.false) := by kernel_rfl
@[simp] theorem aggT5 : Ev.aggT Tryd.prog 5 = some Bool.false := by kernel_rfl
@[simp] theorem tsz5 : Ev.tsz Tryd.prog 5 = some 1 := by kernel_rfl
@[simp] theorem tbytes5 : Ev.tbytes Tryd.prog 5 = some 1 := by kernel_rfl
@[simp] theorem zeroOf5 : Ev.zeroOf Tryd.prog 5 = some (Ev.AV.int Go.IntKind.u8 0) := by kernel_rfl
@[simp] theorem aggT6 : Ev.aggT Tryd.prog 6 = some Bool.false := by kernel_rfl
@[simp] theorem tsz6 : Ev.tsz Tryd.prog 6 = some 1 := by kernel_rfl
@[simp] theorem tbytes6 : Ev.tbytes Tryd.prog 6 = some 1 := by kernel_rfl
@[simp] theorem zeroOf6 : Ev.zeroOf Tryd.prog 6 = some (Ev.AV.int Go.IntKind.u8 0) := by kernel_rfl
@[simp] theorem aggT7 : Ev.aggT Tryd.prog 7 = some Bool.true := by kernel_rfl
@[simp] theorem tsz7 : Ev.tsz Tryd.prog 7 = some 4 := by kernel_rfl
@[simp] theorem tbytes7 : Ev.tbytes Tryd.prog 7 = some 24 := by kernel_rfl
@[simp] theorem placesOf7 : Ev.placesOf Tryd.prog 7 = some [(0, 1), (1, 1), (2, 1), (3, 1)] := by kernel_rfl
@[simp] theorem zeroOf7 : Ev.zeroOf Tryd.prog 7 = some (Ev.AV.agg [Ev.AV.int Go.IntKind.i64 0, Ev.AV.int Go.IntKind.i64 0, Ev.AV.bool Bool.false, Ev.AV.int Go.IntKind.u8 0]) := by kernel_rfl
@[simp] theorem aggT8 : Ev.aggT Tryd.prog 8 = some Bool.true := by kernel_rfl
@[simp] theorem tsz8 : Ev.tsz Tryd.prog 8 = some 4 := by kernel_rfl
@[simp] theorem tbytes8 : Ev.tbytes Tryd.prog 8 = some 24 := by kernel_rfl
@[simp] theorem placesOf8 : Ev.placesOf Tryd.prog 8 = some [(0, 1), (1, 1), (2, 1), (3, 1)] := by kernel_rfl
@[simp] theorem zeroOf8 : Ev.zeroOf Tryd.prog 8 = some (Ev.AV.agg [Ev.AV.int Go.IntKind.i64 0, Ev.AV.int Go.IntKind.i64 0, Ev.AV.bool Bool.false, Ev.AV.int Go.IntKind.u8 0]) := by kernel_rfl
@[simp] theorem aggT9 : Ev.aggT Tryd.prog 9 = some Bool.false := by kernel_rfl
@[simp] theorem tsz9 : Ev.tsz Tryd.prog 9 = some 1 := by kernel_rfl
@[simp] theorem tbytes9 : Ev.tbytes Tryd.prog 9 = some 16 := by kernel_rfl
@[simp] theorem zeroOf9 : Ev.zeroOf Tryd.prog 9 = some (Ev.AV.str []) := by kernel_rfl
@[simp] theorem aggT10 : Ev.aggT Tryd.prog 10 = some Bool.false := by kernel_rfl
@[simp] theorem tsz10 : Ev.tsz Tryd.prog 10 = some 1 := by kernel_rfl
@[simp] theorem tbytes10 : Ev.tbytes Tryd.prog 10 = some 16 := by kernel_rfl
@[simp] theorem zeroOf10 : Ev.zeroOf Tryd.prog 10 = some (Ev.AV.str []) := by kernel_rfl
@[simp] theorem aggT11 : Ev.aggT Tryd.prog 11 = some Bool.false := by kernel_rfl
@[simp] theorem tsz11 : Ev.tsz Tryd.prog 11 = some 1 := by kernel_rfl
@[simp] theorem tbytes11 : Ev.tbytes Tryd.prog 11 = some 16 := by kernel_rfl
@[simp] theorem zeroOf11 : Ev.zeroOf Tryd.prog 11 = some (Ev.AV.str []) := by kernel_rfl
@[simp] theorem aggT12 : Ev.aggT Tryd.prog 12 = some Bool.false := by kernel_rfl
@[simp] theorem tsz12 : Ev.tsz Tryd.prog 12 = some 1 := by kernel_rfl
@[simp] theorem tbytes12 : Ev.tbytes Tryd.prog 12 = some 8 := by kernel_rfl
@[simp] theorem zeroOf12 : Ev.zeroOf Tryd.prog 12 = some (Ev.AV.int Go.IntKind.u64 0) := by kernel_rfl
@[simp] theorem aggT13 : Ev.aggT Tryd.prog 13 = some Bool.true := by kernel_rfl
@[simp] theorem tsz13 : Ev.tsz Tryd.prog 13 = some 2 := by kernel_rfl
@[simp] theorem tbytes13 : Ev.tbytes Tryd.prog 13 = some 24 := by kernel_rfl
@[simp] theorem placesOf13 : Ev.placesOf Tryd.prog 13 = some [(0, 1), (1, 1)] := by kernel_rfl
@[simp] theorem zeroOf13 : Ev.zeroOf Tryd.prog 13 = some (Ev.AV.agg [Ev.AV.str [], Ev.AV.int Go.IntKind.u64 0]) := by kernel_rfl
@[simp] theorem aggT14 : Ev.aggT Tryd.prog 14 = some Bool.true := by kernel_rfl
@[simp] theorem tsz14 : Ev.tsz Tryd.prog 14 = some 2 := by kernel_rfl
@[simp] theorem tbytes14 : Ev.tbytes Tryd.prog 14 = some 24 := by kernel_rfl
@[simp] theorem placesOf14 : Ev.placesOf Tryd.prog 14 = some [(0, 1), (1, 1)] := by kernel_rfl
@[simp] theorem zeroOf14 : Ev.zeroOf Tryd.prog 14 = some (Ev.AV.agg [Ev.AV.str [], Ev.AV.int Go.IntKind.u64 0]) := by kernel_rfl
@[simp] theorem aggT15 : Ev.aggT Tryd.prog 15 = some Bool.false := by kernel_rfl
@[simp] theorem tsz15 : Ev.tsz Tryd.prog 15 = some 1 := by kernel_rfl
@[simp] theorem tbytes15 : Ev.tbytes Tryd.prog 15 = some 8 := by kernel_rfl
@[simp] theorem zeroOf15 : Ev.zeroOf Tryd.prog 15 = some Ev.AV.pnil := by kernel_rfl
@[simp] theorem aggT16 : Ev.aggT Tryd.prog 16 = some Bool.false := by kernel_rfl
@[simp] theorem tsz16 : Ev.tsz Tryd.prog 16 = some 1 := by kernel_rfl
@[simp] theorem tbytes16 : Ev.tbytes Tryd.prog 16 = some 8 := by kernel_rfl
@[simp] theorem zeroOf16 : Ev.zeroOf Tryd.prog 16 = some Ev.AV.pnil := by kernel_rfl
@[simp] theorem aggT17 : Ev.aggT Tryd.prog 17 = some Bool.false := by kernel_rfl
@[simp] theorem tsz17 : Ev.tsz Tryd.prog 17 = some 1 := by kernel_rfl
@[simp] theorem tbytes17 : Ev.tbytes Tryd.prog 17 = some 8 := by kernel_rfl
@[simp] theorem zeroOf17 : Ev.zeroOf Tryd.prog 17 = some Ev.AV.pnil := by kernel_rfl
@[simp] theorem aggT18 : Ev.aggT Tryd.prog 18 = some Bool.true := by kernel_rfl
@[simp] theorem tsz18 : Ev.tsz Tryd.prog 18 = some 1 := by kernel_rfl
@[simp] theorem tbytes18 : Ev.tbytes Tryd.prog 18 = some 8 := by kernel_rfl
@[simp] theorem placesOf18 : Ev.placesOf Tryd.prog 18 = some [(0, 1)] := by kernel_rfl
@[simp] theorem zeroOf18 : Ev.zeroOf Tryd.prog 18 = some (Ev.AV.agg [Ev.AV.pnil]) := by kernel_rfl
@[simp] theorem aggT19 : Ev.aggT Tryd.prog 19 = some Bool.true := by kernel_rfl
@[simp] theorem tsz19 : Ev.tsz Tryd.prog 19 = some 1 := by kernel_rfl
@[simp] theorem tbytes19 : Ev.tbytes Tryd.prog 19 = some 8 := by kernel_rfl
@[simp] theorem placesOf19 : Ev.placesOf Tryd.prog 19 = some [(0, 1)] := by kernel_rfl
@[simp] theorem zeroOf19 : Ev.zeroOf Tryd.prog 19 = some (Ev.AV.agg [Ev.AV.pnil]) := by kernel_rfl
@[simp] theorem aggT20 : Ev.aggT Tryd.prog 20 = some Bool.false := by kernel_rfl
@[simp] theorem tsz20 : Ev.tsz Tryd.prog 20 = some 1 := by kernel_rfl
@[simp] theorem tbytes20 : Ev.tbytes Tryd.prog 20 = some 16 := by kernel_rfl
@[simp] theorem zeroOf20 : Ev.zeroOf Tryd.prog 20 = some Ev.AV.undef := by kernel_rfl
@[simp] theorem aggT21 : Ev.aggT Tryd.prog 21 = some Bool.false := by kernel_rfl
@[simp] theorem tsz21 : Ev.tsz Tryd.prog 21 = some 1 := by kernel_rfl
@[simp] theorem tbytes21 : Ev.tbytes Tryd.prog 21 = some 4 := by kernel_rfl
@[simp] theorem zeroOf21 : Ev.zeroOf Tryd.prog 21 = some (Ev.AV.int Go.IntKind.i32 0) := by kernel_rfl
@[simp] theorem aggT22 : Ev.aggT Tryd.prog 22 = some Bool.false := by kernel_rfl
@[simp] theorem tsz22 : Ev.tsz Tryd.prog 22 = some 1 := by kernel_rfl
@[simp] theorem tbytes22 : Ev.tbytes Tryd.prog 22 = some 24 := by kernel_rfl
@[simp] theorem elemT22 : Ev.elemT Tryd.prog 22 = some 9 := by kernel_rfl
@[simp] theorem zeroOf22 : Ev.zeroOf Tryd.prog 22 = some (Ev.AV.sl 0 [] Ev.Tok.nil) := by kernel_rfl
@[simp] theorem aggT23 : Ev.aggT Tryd.prog 23 = some Bool.false := by kernel_rfl
@[simp] theorem tsz23 : Ev.tsz Tryd.prog 23 = some 1 := by kernel_rfl
@[simp] theorem tbytes23 : Ev.tbytes Tryd.prog 23 = some 8 := by kernel_rfl
@[simp] theorem zeroOf23 : Ev.zeroOf Tryd.prog 23 = some Ev.AV.fnil := by kernel_rfl
@[simp] theorem aggT24 : Ev.aggT Tryd.prog 24 = some Bool.false := by kernel_rfl
@[simp] theorem tsz24 : Ev.tsz Tryd.prog 24 = some 1 := by kernel_rfl
@[simp] theorem tbytes24 : Ev.tbytes Tryd.prog 24 = some 8 := by kernel_rfl
@[simp] theorem zeroOf24 : Ev.zeroOf Tryd.prog 24 = some Ev.AV.fnil := by kernel_rfl
@[simp] theorem aggT25 : Ev.aggT Tryd.prog 25 = some Bool.false := by kernel_rfl
@[simp] theorem tsz25 : Ev.tsz Tryd.prog 25 = some 1 := by kernel_rfl
@[simp] theorem tbytes25 : Ev.tbytes Tryd.prog 25 = some 8 := by kernel_rfl
@[simp] theorem zeroOf25 : Ev.zeroOf Tryd.prog 25 = some (Ev.AV.int Go.IntKind.i64 0) := by kernel_rfl
@[simp] theorem aggT26 : Ev.aggT Tryd.prog 26 = some Bool.false := by kernel_rfl
@[simp] theorem tsz26 : Ev.tsz Tryd.prog 26 = some 1 := by kernel_rfl
@[simp] theorem tbytes26 : Ev.tbytes Tryd.prog 26 = some 0 := by kernel_rfl
@[simp] theorem zeroOf26 : Ev.zeroOf Tryd.prog 26 = some Ev.AV.undef := by kernel_rfl
@[simp] theorem aggT27 : Ev.aggT Tryd.prog 27 = some Bool.false := by kernel_rfl
@[simp] theorem tsz27 : Ev.tsz Tryd.prog 27 = some 1 := by kernel_rfl
@[simp] theorem tbytes27 : Ev.tbytes Tryd.prog 27 = some 8 := by kernel_rfl
@[simp] theorem zeroOf27 : Ev.zeroOf Tryd.prog 27 = some Ev.AV.fnil := by kernel_rfl
@[simp] theorem aggT28 : Ev.aggT Tryd.prog 28 = some Bool.false := by kernel_rfl
@[simp] theorem tsz28 : Ev.tsz Tryd.prog 28 = some 1 := by kernel_rfl
@[simp] theorem tbytes28 : Ev.tbytes Tryd.prog 28 = some 8 := by kernel_rfl
@[simp] theorem zeroOf28 : Ev.zeroOf Tryd.prog 28 = some Ev.AV.fnil := by kernel_rfl
@[simp] theorem aggT29 : Ev.aggT Tryd.prog 29 = some Bool.false := by kernel_rfl
@[simp] theorem tsz29 : Ev.tsz Tryd.prog 29 = some 1 := by kernel_rfl
@[simp] theorem tbytes29 : Ev.tbytes Tryd.prog 29 = some 0 := by kernel_rfl
@[simp] theorem zeroOf29 : Ev.zeroOf Tryd.prog 29 = some Ev.AV.undef := by kernel_rfl
@[simp] theorem aggT30 : Ev.aggT Tryd.prog 30 = some Bool.false := by kernel_rfl
@[simp] theorem tsz30 : Ev.tsz Tryd.prog 30 = some 1 := by kernel_rfl
@[simp] theorem tbytes30 : Ev.tbytes Tryd.prog 30 = some 8 := by kernel_rfl
@[simp] theorem zeroOf30 : Ev.zeroOf Tryd.prog 30 = some Ev.AV.fnil := by kernel_rfl
@[simp] theorem aggT31 : Ev.aggT Tryd.prog 31 = some Bool.false := by kernel_rfl
@[simp] theorem tsz31 : Ev.tsz Tryd.prog 31 = some 1 := by kernel_rfl
@[simp] theorem tbytes31 : Ev.tbytes Tryd.prog 31 = some 24 := by kernel_rfl
@[simp] theorem elemT31 : Ev.elemT Tryd.prog 31 = some 39 := by kernel_rfl
@[simp] theorem zeroOf31 : Ev.zeroOf Tryd.prog 31 = some (Ev.AV.sl 0 [] Ev.Tok.nil) := by kernel_rfl
@[simp] theorem aggT32 : Ev.aggT Tryd.prog 32 = some Bool.true := by kernel_rfl
@[simp] theorem tsz32 : Ev.tsz Tryd.prog 32 = some 2 := by kernel_rfl
@[simp] theorem tbytes32 : Ev.tbytes Tryd.prog 32 = some 16 := by kernel_rfl
@[simp] theorem placesOf32 : Ev.placesOf Tryd.prog 32 = some [(0, 1), (1, 1)] := by kernel_rfl
@[simp] theorem zeroOf32 : Ev.zeroOf Tryd.prog 32 = some (Ev.AV.agg [Ev.AV.int Go.IntKind.i64 0, Ev.AV.int Go.IntKind.i64 0]) := by kernel_rfl
@[simp] theorem aggT33 : Ev.aggT Tryd.prog 33 = some Bool.true := by kernel_rfl
@[simp] theorem tsz33 : Ev.tsz Tryd.prog 33 = some 2 := by kernel_rfl
@[simp] theorem tbytes33 : Ev.tbytes Tryd.prog 33 = some 16 := by kernel_rfl
@[simp] theorem placesOf33 : Ev.placesOf Tryd.prog 33 = some [(0, 1), (1, 1)] := by kernel_rfl
@[simp] theorem zeroOf33 : Ev.zeroOf Tryd.prog 33 = some (Ev.AV.agg [Ev.AV.int Go.IntKind.i64 0, Ev.AV.int Go.IntKind.i64 0]) := by kernel_rfl
@[simp] theorem aggT34 : Ev.aggT Tryd.prog 34 = some Bool.false := by kernel_rfl
@[simp] theorem tsz34 : Ev.tsz Tryd.prog 34 = some 1 := by kernel_rfl
@[simp] theorem tbytes34 : Ev.tbytes Tryd.prog 34 = some 0 := by kernel_rfl
@[simp] theorem zeroOf34 : Ev.zeroOf Tryd.prog 34 = some Ev.AV.undef := by kernel_rfl
@[simp] theorem aggT35 : Ev.aggT Tryd.prog 35 = some Bool.false := by kernel_rfl
@[simp] theorem tsz35 : Ev.tsz Tryd.prog 35 = some 1 := by kernel_rfl
@[simp] theorem tbytes35 : Ev.tbytes Tryd.prog 35 = some 8 := by kernel_rfl
@[simp] theorem zeroOf35 : Ev.zeroOf Tryd.prog 35 = some Ev.AV.fnil := by kernel_rfl
@[simp] theorem aggT36 : Ev.aggT Tryd.prog 36 = some Bool.false := by kernel_rfl
@[simp] theorem tsz36 : Ev.tsz Tryd.prog 36 = some 1 := by kernel_rfl
@[simp] theorem tbytes36 : Ev.tbytes Tryd.prog 36 = some 0 := by kernel_rfl
@[simp] theorem zeroOf36 : Ev.zeroOf Tryd.prog 36 = some Ev.AV.undef := by kernel_rfl
@[simp] theorem aggT37 : Ev.aggT Tryd.prog 37 = some Bool.false := by kernel_rfl
@[simp] theorem tsz37 : Ev.tsz Tryd.prog 37 = some 1 := by kernel_rfl
@[simp] theorem tbytes37 : Ev.tbytes Tryd.prog 37 = some 8 := by kernel_rfl
@[simp] theorem zeroOf37 : Ev.zeroOf Tryd.prog 37 = some Ev.AV.fnil := by kernel_rfl
@[simp] theorem aggT38 : Ev.aggT Tryd.prog 38 = some Bool.true := by kernel_rfl
@[simp] theorem tsz38 : Ev.tsz Tryd.prog 38 = some 4 := by kernel_rfl
@[simp] theorem tbytes38 : Ev.tbytes Tryd.prog 38 = some 40 := by kernel_rfl
@[simp] theorem placesOf38 : Ev.placesOf Tryd.prog 38 = some [(0, 1), (1, 1), (2, 1), (3, 1)] := by kernel_rfl
@[simp] theorem zeroOf38 : Ev.zeroOf Tryd.prog 38 = some (Ev.AV.agg [Ev.AV.int Go.IntKind.i64 0, Ev.AV.str [], Ev.AV.int Go.IntKind.i64 0, Ev.AV.int Go.IntKind.i64 0]) := by kernel_rfl
@[simp] theorem aggT39 : Ev.aggT Tryd.prog 39 = some Bool.true := by kernel_rfl
@[simp] theorem tsz39 : Ev.tsz Tryd.prog 39 = some 4 := by kernel_rfl
@[simp] theorem tbytes39 : Ev.tbytes Tryd.prog 39 = some 40 := by kernel_rfl
@[simp] theorem placesOf39 : Ev.placesOf Tryd.prog 39 = some [(0, 1), (1, 1), (2, 1), (3, 1)] := by kernel_rfl
@[simp] theorem zeroOf39 : Ev.zeroOf Tryd.prog 39 = some (Ev.AV.agg [Ev.AV.int Go.IntKind.i64 0, Ev.AV.str [], Ev.AV.int Go.IntKind.i64 0, Ev.AV.int Go.IntKind.i64 0]) := by kernel_rfl
@[simp] theorem aggT40 : Ev.aggT Tryd.prog 40 = some Bool.false := by kernel_rfl
@[simp] theorem tsz40 : Ev.tsz Tryd.prog 40 = some 1 := by kernel_rfl
@[simp] theorem tbytes40 : Ev.tbytes Tryd.prog 40 = some 8 := by kernel_rfl
@[simp] theorem zeroOf40 : Ev.zeroOf Tryd.prog 40 = some Ev.AV.fnil := by kernel_rfl
@[simp] theorem aggT41 : Ev.aggT Tryd.prog 41 = some Bool.false := by kernel_rfl
@[simp] theorem tsz41 : Ev.tsz Tryd.prog 41 = some 1 := by kernel_rfl
@[simp] theorem tbytes41 : Ev.tbytes Tryd.prog 41 = some 8 := by kernel_rfl
@[simp] theorem zeroOf41 : Ev.zeroOf Tryd.prog 41 = some Ev.AV.fnil := by kernel_rfl
@[simp] theorem aggT42 : Ev.aggT Tryd.prog 42 = some Bool.false := by kernel_rfl
@[simp] theorem tsz42 : Ev.tsz Tryd.prog 42 = some 1 := by kernel_rfl
@[simp] theorem tbytes42 : Ev.tbytes Tryd.prog 42 = some 24 := by kernel_rfl
@[simp] theorem elemT42 : Ev.elemT Tryd.prog 42 = some 50 := by kernel_rfl
@[simp] theorem zeroOf42 : Ev.zeroOf Tryd.prog 42 = some (Ev.AV.sl 0 [] Ev.Tok.nil) := by kernel_rfl
@[simp] theorem aggT43 : Ev.aggT Tryd.prog 43 = some Bool.false := by kernel_rfl
@[simp] theorem tsz43 : Ev.tsz Tryd.prog 43 = some 1 := by kernel_rfl
@[simp] theorem tbytes43 : Ev.tbytes Tryd.prog 43 = some 0 := by kernel_rfl
@[simp] theorem zeroOf43 : Ev.zeroOf Tryd.prog 43 = some Ev.AV.undef := by kernel_rfl
@[simp] theorem aggT44 : Ev.aggT Tryd.prog 44 = some Bool.false := by kernel_rfl
@[simp] theorem tsz44 : Ev.tsz Tryd.prog 44 = some 1 := by kernel_rfl
@[simp] theorem tbytes44 : Ev.tbytes Tryd.prog 44 = some 8 := by kernel_rfl
@[simp] theorem zeroOf44 : Ev.zeroOf Tryd.prog 44 = some Ev.AV.fnil := by kernel_rfl
@[simp] theorem aggT45 : Ev.aggT Tryd.prog 45 = some Bool.false := by kernel_rfl
@[simp] theorem tsz45 : Ev.tsz Tryd.prog 45 = some 1 := by kernel_rfl
@[simp] theorem tbytes45 : Ev.tbytes Tryd.prog 45 = some 0 := by kernel_rfl
@[simp] theorem zeroOf45 : Ev.zeroOf Tryd.prog 45 = some Ev.AV.undef := by kernel_rfl
@[simp] theorem aggT46 : Ev.aggT Tryd.prog 46 = some Bool.false := by kernel_rfl
@[simp] theorem tsz46 : Ev.tsz Tryd.prog 46 = some 1 := by kernel_rfl
@[simp] theorem tbytes46 : Ev.tbytes Tryd.prog 46 = some 8 := by kernel_rfl
@[simp] theorem zeroOf46 : Ev.zeroOf Tryd.prog 46 = some Ev.AV.fnil := by kernel_rfl
@[simp] theorem aggT47 : Ev.aggT Tryd.prog 47 = some Bool.false := by kernel_rfl
@[simp] theorem tsz47 : Ev.tsz Tryd.prog 47 = some 1 := by kernel_rfl
@[simp] theorem tbytes47 : Ev.tbytes Tryd.prog 47 = some 0 := by kernel_rfl
@[simp] theorem zeroOf47 : Ev.zeroOf Tryd.prog 47 = some Ev.AV.undef := by kernel_rfl
@[simp] theorem aggT48 : Ev.aggT Tryd.prog 48 = some Bool.false := by kernel_rfl
@[simp] theorem tsz48 : Ev.tsz Tryd.prog 48 = some 1 := by kernel_rfl
@[simp] theorem tbytes48 : Ev.tbytes Tryd.prog 48 = some 8 := by kernel_rfl
@[simp] theorem zeroOf48 : Ev.zeroOf Tryd.prog 48 = some Ev.AV.fnil := by kernel_rfl
@[simp] theorem aggT49 : Ev.aggT Tryd.prog 49 = some Bool.true := by kernel_rfl
@[simp] theorem tsz49 : Ev.tsz Tryd.prog 49 = some 4 := by kernel_rfl
@[simp] theorem tbytes49 : Ev.tbytes Tryd.prog 49 = some 32 := by kernel_rfl
@[simp] theorem placesOf49 : Ev.placesOf Tryd.prog 49 = some [(0, 2), (2, 2)] := by kernel_rfl
@[simp] theorem zeroOf49 : Ev.zeroOf Tryd.prog 49 = some (Ev.AV.agg [Ev.AV.int Go.IntKind.i64 0, Ev.AV.int Go.IntKind.i64 0, Ev.AV.int Go.IntKind.i64 0, Ev.AV.int Go.IntKind.i64 0]) := by kernel_rfl
@[simp] theorem aggT50 : Ev.aggT Tryd.prog 50 = some Bool.true := by kernel_rfl
@[simp] theorem tsz50 : Ev.tsz Tryd.prog 50 = some 4 := by kernel_rfl
@[simp] theorem tbytes50 : Ev.tbytes Tryd.prog 50 = some 32 := by kernel_rfl
@[simp] theorem placesOf50 : Ev.placesOf Tryd.prog 50 = some [(0, 2), (2, 2)] := by kernel_rfl
@[simp] theorem zeroOf50 : Ev.zeroOf Tryd.prog 50 = some (Ev.AV.agg [Ev.AV.int Go.IntKind.i64 0, Ev.AV.int Go.IntKind.i64 0, Ev.AV.int Go.IntKind.i64 0, Ev.AV.int Go.IntKind.i64 0]) := by kernel_rfl
@[simp] theorem aggT51 : Ev.aggT Tryd.prog 51 = some Bool.false := by kernel_rfl
@[simp] theorem tsz51 : Ev.tsz Tryd.prog 51 = some 1 := by kernel_rfl
@[simp] theorem tbytes51 : Ev.tbytes Tryd.prog 51 = some 8 := by kernel_rfl
@[simp] theorem zeroOf51 : Ev.zeroOf Tryd.prog 51 = some Ev.AV.fnil := by kernel_rfl
@[simp] theorem aggT52 : Ev.aggT Tryd.prog 52 = some Bool.false := by kernel_rfl
@[simp] theorem tsz52 : Ev.tsz Tryd.prog 52 = some 1 := by kernel_rfl
@[simp] theorem tbytes52 : Ev.tbytes Tryd.prog 52 = some 8 := by kernel_rfl
@[simp] theorem zeroOf52 : Ev.zeroOf Tryd.prog 52 = some Ev.AV.fnil := by kernel_rfl
@[simp] theorem aggT53 : Ev.aggT Tryd.prog 53 = some Bool.false := by kernel_rfl
@[simp] theorem tsz53 : Ev.tsz Tryd.prog 53 = some 1 := by kernel_rfl
@[simp] theorem tbytes53 : Ev.tbytes Tryd.prog 53 = some 8 := by kernel_rfl
@[simp] theorem zeroOf53 : Ev.zeroOf Tryd.prog 53 = some Ev.AV.fnil := by kernel_rfl
@[simp] theorem aggT54 : Ev.aggT Tryd.prog 54 = some Bool.false := by kernel_rfl
@[simp] theorem tsz54 : Ev.tsz Tryd.prog 54 = some 1 := by kernel_rfl
@[simp] theorem tbytes54 : Ev.tbytes Tryd.prog 54 = some 8 := by kernel_rfl
@[simp] theorem zeroOf54 : Ev.zeroOf Tryd.prog 54 = some Ev.AV.fnil := by kernel_rfl
@[simp] theorem aggT55 : Ev.aggT Tryd.prog 55 = some Bool.false := by kernel_rfl
@[simp] theorem tsz55 : Ev.tsz Tryd.prog 55 = some 1 := by kernel_rfl
@[simp] theorem tbytes55 : Ev.tbytes Tryd.prog 55 = some 8 := by kernel_rfl
@[simp] theorem zeroOf55 : Ev.zeroOf Tryd.prog 55 = some Ev.AV.fnil := by kernel_rfl
@[simp] theorem aggT56 : Ev.aggT Tryd.prog 56 = some Bool.false := by kernel_rfl
@[simp] theorem tsz56 : Ev.tsz Tryd.prog 56 = some 1 := by kernel_rfl
@[simp] theorem tbytes56 : Ev.tbytes Tryd.prog 56 = some 8 := by kernel_rfl
@[simp] theorem zeroOf56 : Ev.zeroOf Tryd.prog 56 = some Ev.AV.pnil := by kernel_rfl
@[simp] theorem aggT57 : Ev.aggT Tryd.prog 57 = some Bool.false := by kernel_rfl
@[simp] theorem tsz57 : Ev.tsz Tryd.prog 57 = some 1 := by kernel_rfl
@[simp] theorem tbytes57 : Ev.tbytes Tryd.prog 57 = some 0 := by kernel_rfl
@[simp] theorem zeroOf57 : Ev.zeroOf Tryd.prog 57 = some Ev.AV.undef := by kernel_rfl
@[simp] theorem aggT58 : Ev.aggT Tryd.prog 58 = some Bool.false := by kernel_rfl
@[simp] theorem tsz58 : Ev.tsz Tryd.prog 58 = some 1 := by kernel_rfl
@[simp] theorem tbytes58 : Ev.tbytes Tryd.prog 58 = some 8 := by kernel_rfl
@[simp] theorem zeroOf58 : Ev.zeroOf Tryd.prog 58 = some Ev.AV.fnil := by kernel_rfl
@[simp] theorem aggT59 : Ev.aggT Tryd.prog 59 = some Bool.true := by kernel_rfl
@[simp] theorem tsz59 : Ev.tsz Tryd.prog 59 = some 5 := by kernel_rfl
@[simp] theorem tbytes59 : Ev.tbytes Tryd.prog 59 = some 88 := by kernel_rfl
@[simp] theorem placesOf59 : Ev.placesOf Tryd.prog 59 = some [(0, 1), (1, 2), (3, 1), (4, 1)] := by kernel_rfl
@[simp] theorem zeroOf59 : Ev.zeroOf Tryd.prog 59 = some (Ev.AV.agg [Ev.AV.sl 0 [] Ev.Tok.nil, Ev.AV.int Go.IntKind.i64 0, Ev.AV.int Go.IntKind.i64 0, Ev.AV.sl 0 [] Ev.Tok.nil, Ev.AV.sl 0 [] Ev.Tok.nil]) := by kernel_rfl
@[simp] theorem aggT60 : Ev.aggT Tryd.prog 60 = some Bool.true := by kernel_rfl
@[simp] theorem tsz60 : Ev.tsz Tryd.prog 60 = some 5 := by kernel_rfl
@[simp] theorem tbytes60 : Ev.tbytes Tryd.prog 60 = some 88 := by kernel_rfl
@[simp] theorem placesOf60 : Ev.placesOf Tryd.prog 60 = some [(0, 1), (1, 2), (3, 1), (4, 1)] := by kernel_rfl
@[simp] theorem zeroOf60 : Ev.zeroOf Tryd.prog 60 = some (Ev.AV.agg [Ev.AV.sl 0 [] Ev.Tok.nil, Ev.AV.int Go.IntKind.i64 0, Ev.AV.int Go.IntKind.i64 0, Ev.AV.sl 0 [] Ev.Tok.nil, Ev.AV.sl 0 [] Ev.Tok.nil]) := by kernel_rfl
@[simp] theorem aggT61 : Ev.aggT Tryd.prog 61 = some Bool.false := by kernel_rfl
@[simp] theorem tsz61 : Ev.tsz Tryd.prog 61 = some 1 := by kernel_rfl
@[simp] theorem tbytes61 : Ev.tbytes Tryd.prog 61 = some 8 := by kernel_rfl
@[simp] theorem zeroOf61 : Ev.zeroOf Tryd.prog 61 = some Ev.AV.fnil := by kernel_rfl
@[simp] theorem aggT62 : Ev.aggT Tryd.prog 62 = some Bool.false := by kernel_rfl
@[simp] theorem tsz62 : Ev.tsz Tryd.prog 62 = some 1 := by kernel_rfl
@[simp] theorem tbytes62 : Ev.tbytes Tryd.prog 62 = some 8 := by kernel_rfl
@[simp] theorem zeroOf62 : Ev.zeroOf Tryd.prog 62 = some Ev.AV.fnil := by kernel_rfl
@[simp] theorem aggT63 : Ev.aggT Tryd.prog 63 = some Bool.false := by kernel_rfl
@[simp] theorem tsz63 : Ev.tsz Tryd.prog 63 = some 1 := by kernel_rfl
@[simp] theorem tbytes63 : Ev.tbytes Tryd.prog 63 = some 8 := by kernel_rfl
@[simp] theorem zeroOf63 : Ev.zeroOf Tryd.prog 63 = some Ev.AV.fnil := by kernel_rfl
@[simp] theorem aggT64 : Ev.aggT Tryd.prog 64 = some Bool.false := by kernel_rfl
@[simp] theorem tsz64 : Ev.tsz Tryd.prog 64 = some 1 := by kernel_rfl
@[simp] theorem tbytes64 : Ev.tbytes Tryd.prog 64 = some 8 := by kernel_rfl
@[simp] theorem zeroOf64 : Ev.zeroOf Tryd.prog 64 = some Ev.AV.fnil := by kernel_rfl
@[simp] theorem aggT65 : Ev.aggT Tryd.prog 65 = some Bool.false := by kernel_rfl
@[simp] theorem tsz65 : Ev.tsz Tryd.prog 65 = some 1 := by kernel_rfl
@[simp] theorem tbytes65 : Ev.tbytes Tryd.prog 65 = some 8 := by kernel_rfl
@[simp] theorem zeroOf65 : Ev.zeroOf Tryd.prog 65 = some Ev.AV.fnil := by kernel_rfl
@[simp] theorem aggT66 : Ev.aggT Tryd.prog 66 = some Bool.false := by kernel_rfl
@[simp] theorem tsz66 : Ev.tsz Tryd.prog 66 = some 1 := by kernel_rfl
@[simp] theorem tbytes66 : Ev.tbytes Tryd.prog 66 = some 24 := by kernel_rfl
@[simp] theorem elemT66 : Ev.elemT Tryd.prog 66 = some 68 := by kernel_rfl
@[simp] theorem zeroOf66 : Ev.zeroOf Tryd.prog 66 = some (Ev.AV.sl 0 [] Ev.Tok.nil) := by kernel_rfl
@[simp] theorem aggT67 : Ev.aggT Tryd.prog 67 = some Bool.true := by kernel_rfl
@[simp] theorem tsz67 : Ev.tsz Tryd.prog 67 = some 2 := by kernel_rfl
@[simp] theorem tbytes67 : Ev.tbytes Tryd.prog 67 = some 32 := by kernel_rfl
@[simp] theorem placesOf67 : Ev.placesOf Tryd.prog 67 = some [(0, 1), (1, 1)] := by kernel_rfl
@[simp] theorem zeroOf67 : Ev.zeroOf Tryd.prog 67 = some (Ev.AV.agg [Ev.AV.str [], Ev.AV.str []]) := by kernel_rfl
@[simp] theorem aggT68 : Ev.aggT Tryd.prog 68 = some Bool.true := by kernel_rfl
@[simp] theorem tsz68 : Ev.tsz Tryd.prog 68 = some 2 := by kernel_rfl
@[simp] theorem tbytes68 : Ev.tbytes Tryd.prog 68 = some 32 := by kernel_rfl
@[simp] theorem placesOf68 : Ev.placesOf Tryd.prog 68 = some [(0, 1), (1, 1)] := by kernel_rfl
@[simp] theorem zeroOf68 : Ev.zeroOf Tryd.prog 68 = some (Ev.AV.agg [Ev.AV.str [], Ev.AV.str []]) := by kernel_rfl
@[simp] theorem aggT69 : Ev.aggT Tryd.prog 69 = some Bool.false := by kernel_rfl
@[simp] theorem tsz69 : Ev.tsz Tryd.prog 69 = some 1 := by kernel_rfl
@[simp] theorem tbytes69 : Ev.tbytes Tryd.prog 69 = some 8 := by kernel_rfl
@[simp] theorem zeroOf69 : Ev.zeroOf Tryd.prog 69 = some Ev.AV.fnil := by kernel_rfl
@[simp] theorem aggT70 : Ev.aggT Tryd.prog 70 = some Bool.false := by kernel_rfl
@[simp] theorem tsz70 : Ev.tsz Tryd.prog 70 = some 1 := by kernel_rfl
@[simp] theorem tbytes70 : Ev.tbytes Tryd.prog 70 = some 8 := by kernel_rfl
@[simp] theorem zeroOf70 : Ev.zeroOf Tryd.prog 70 = some Ev.AV.fnil := by kernel_rfl
@[simp] theorem aggT71 : Ev.aggT Tryd.prog 71 = some Bool.false := by kernel_rfl
@[simp] theorem tsz71 : Ev.tsz Tryd.prog 71 = some 1 := by kernel_rfl
@[simp] theorem tbytes71 : Ev.tbytes Tryd.prog 71 = some 8 := by kernel_rfl
@[simp] theorem zeroOf71 : Ev.zeroOf Tryd.prog 71 = some Ev.AV.fnil := by kernel_rfl
@[simp] theorem aggT72 : Ev.aggT Tryd.prog 72 = some Bool.false := by kernel_rfl
@[simp] theorem tsz72 : Ev.tsz Tryd.prog 72 = some 1 := by kernel_rfl
@[simp] theorem tbytes72 : Ev.tbytes Tryd.prog 72 = some 24 := by kernel_rfl
@[simp] theorem elemT72 : Ev.elemT Tryd.prog 72 = some 25 := by kernel_rfl
@[simp] theorem zeroOf72 : Ev.zeroOf Tryd.prog 72 = some (Ev.AV.sl 0 [] Ev.Tok.nil) := by kernel_rfl
@[simp] theorem aggT73 : Ev.aggT Tryd.prog 73 = some Bool.false := by kernel_rfl
@[simp] theorem tsz73 : Ev.tsz Tryd.prog 73 = some 1 := by kernel_rfl
@[simp] theorem tbytes73 : Ev.tbytes Tryd.prog 73 = some 8 := by kernel_rfl
@[simp] theorem zeroOf73 : Ev.zeroOf Tryd.prog 73 = some Ev.AV.fnil := by kernel_rfl
@[simp] theorem aggT74 : Ev.aggT Tryd.prog 74 = some Bool.false := by kernel_rfl
@[simp] theorem tsz74 : Ev.tsz Tryd.prog 74 = some 1 := by kernel_rfl
@[simp] theorem tbytes74 : Ev.tbytes Tryd.prog 74 = some 8 := by kernel_rfl
@[simp] theorem zeroOf74 : Ev.zeroOf Tryd.prog 74 = some Ev.AV.fnil := by kernel_rfl
@[simp] theorem aggT75 : Ev.aggT Tryd.prog 75 = some Bool.false := by kernel_rfl
@[simp] theorem tsz75 : Ev.tsz Tryd.prog 75 = some 1 := by kernel_rfl
@[simp] theorem tbytes75 : Ev.tbytes Tryd.prog 75 = some 8 := by kernel_rfl
@[simp] theorem zeroOf75 : Ev.zeroOf Tryd.prog 75 = some (Ev.AV.int Go.IntKind.u64 0) := by kernel_rfl
@[simp] theorem aggT76 : Ev.aggT Tryd.prog 76 = some Bool.false := by kernel_rfl
@[simp] theorem tsz76 : Ev.tsz Tryd.prog 76 = some 1 := by kernel_rfl
@[simp] theorem tbytes76 : Ev.tbytes Tryd.prog 76 = some 0 := by kernel_rfl
@[simp] theorem zeroOf76 : Ev.zeroOf Tryd.prog 76 = some Ev.AV.undef := by kernel_rfl
@[simp] theorem aggT77 : Ev.aggT Tryd.prog 77 = some Bool.false := by kernel_rfl
@[simp] theorem tsz77 : Ev.tsz Tryd.prog 77 = some 1 := by kernel_rfl
@[simp] theorem tbytes77 : Ev.tbytes Tryd.prog 77 = some 8 := by kernel_rfl
@[simp] theorem zeroOf77 : Ev.zeroOf Tryd.prog 77 = some Ev.AV.fnil := by kernel_rfl
@[simp] theorem aggT78 : Ev.aggT Tryd.prog 78 = some Bool.false := by kernel_rfl
@[simp] theorem tsz78 : Ev.tsz Tryd.prog 78 = some 1 := by kernel_rfl
@[simp] theorem tbytes78 : Ev.tbytes Tryd.prog 78 = some 8 := by kernel_rfl
@[simp] theorem zeroOf78 : Ev.zeroOf Tryd.prog 78 = some Ev.AV.fnil := by kernel_rfl
@[simp] theorem aggT79 : Ev.aggT Tryd.prog 79 = some Bool.false := by kernel_rfl
@[simp] theorem tsz79 : Ev.tsz Tryd.prog 79 = some 1 := by kernel_rfl
@[simp] theorem tbytes79 : Ev.tbytes Tryd.prog 79 = some 8 := by kernel_rfl
@[simp] theorem zeroOf79 : Ev.zeroOf Tryd.prog 79 = some Ev.AV.pnil := by kernel_rfl
@[simp] theorem aggT80 : Ev.aggT Tryd.prog 80 = some Bool.false := by kernel_rfl
@[simp] theorem tsz80 : Ev.tsz Tryd.prog 80 = some 1 := by kernel_rfl
@[simp] theorem tbytes80 : Ev.tbytes Tryd.prog 80 = some 24 := by kernel_rfl
@[simp] theorem elemT80 : Ev.elemT Tryd.prog 80 = some 5 := by kernel_rfl
@[simp] theorem zeroOf80 : Ev.zeroOf Tryd.prog 80 = some (Ev.AV.sl 0 [] Ev.Tok.nil) := by kernel_rfl
@[simp] theorem aggT81 : Ev.aggT Tryd.prog 81 = some Bool.true := by kernel_rfl
@[simp] theorem tsz81 : Ev.tsz Tryd.prog 81 = some 2 := by kernel_rfl
@[simp] theorem tbytes81 : Ev.tbytes Tryd.prog 81 = some 32 := by kernel_rfl
@[simp] theorem placesOf81 : Ev.placesOf Tryd.prog 81 = some [(0, 1), (1, 1)] := by kernel_rfl
@[simp] theorem zeroOf81 : Ev.zeroOf Tryd.prog 81 = some (Ev.AV.agg [Ev.AV.pnil, Ev.AV.sl 0 [] Ev.Tok.nil]) := by kernel_rfl
@[simp] theorem aggT82 : Ev.aggT Tryd.prog 82 = some Bool.true := by kernel_rfl
@[simp] theorem tsz82 : Ev.tsz Tryd.prog 82 = some 2 := by kernel_rfl
@[simp] theorem tbytes82 : Ev.tbytes Tryd.prog 82 = some 32 := by kernel_rfl
@[simp] theorem placesOf82 : Ev.placesOf Tryd.prog 82 = some [(0, 1), (1, 1)] := by kernel_rfl
@[simp] theorem zeroOf82 : Ev.zeroOf Tryd.prog 82 = some (Ev.AV.agg [Ev.AV.pnil, Ev.AV.sl 0 [] Ev.Tok.nil]) := by kernel_rfl
@[simp] theorem aggT83 : Ev.aggT Tryd.prog 83 = some Bool.false := by kernel_rfl
@[simp] theorem tsz83 : Ev.tsz Tryd.prog 83 = some 1 := by kernel_rfl
@[simp] theorem tbytes83 : Ev.tbytes Tryd.prog 83 = some 8 := by kernel_rfl
@[simp] theorem zeroOf83 : Ev.zeroOf Tryd.prog 83 = some Ev.AV.fnil := by kernel_rfl
@[simp] theorem aggT84 : Ev.aggT Tryd.prog 84 = some Bool.false := by kernel_rfl
@[simp] theorem tsz84 : Ev.tsz Tryd.prog 84 = some 1 := by kernel_rfl
@[simp] theorem tbytes84 : Ev.tbytes Tryd.prog 84 = some 16 := by kernel_rfl
@[simp] theorem zeroOf84 : Ev.zeroOf Tryd.prog 84 = some Ev.AV.undef := by kernel_rfl
@[simp] theorem aggT85 : Ev.aggT Tryd.prog 85 = some Bool.false := by kernel_rfl
@[simp] theorem tsz85 : Ev.tsz Tryd.prog 85 = some 1 := by kernel_rfl
@[simp] theorem tbytes85 : Ev.tbytes Tryd.prog 85 = some 16 := by kernel_rfl
@[simp] theorem zeroOf85 : Ev.zeroOf Tryd.prog 85 = some Ev.AV.undef := by kernel_rfl
@[simp] theorem aggT86 : Ev.aggT Tryd.prog 86 = some Bool.false := by kernel_rfl
@[simp] theorem tsz86 : Ev.tsz Tryd.prog 86 = some 1 := by kernel_rfl
@[simp] theorem tbytes86 : Ev.tbytes Tryd.prog 86 = some 0 := by kernel_rfl
@[simp] theorem zeroOf86 : Ev.zeroOf Tryd.prog 86 = some Ev.AV.undef := by kernel_rfl
@[simp] theorem aggT87 : Ev.aggT Tryd.prog 87 = some Bool.false := by kernel_rfl
@[simp] theorem tsz87 : Ev.tsz Tryd.prog 87 = some 1 := by kernel_rfl
@[simp] theorem tbytes87 : Ev.tbytes Tryd.prog 87 = some 8 := by kernel_rfl
@[simp] theorem zeroOf87 : Ev.zeroOf Tryd.prog 87 = some Ev.AV.fnil := by kernel_rfl
@[simp] theorem aggT88 : Ev.aggT Tryd.prog 88 = some Bool.false := by kernel_rfl
@[simp] theorem tsz88 : Ev.tsz Tryd.prog 88 = some 1 := by kernel_rfl
@[simp] theorem tbytes88 : Ev.tbytes Tryd.prog 88 = some 8 := by kernel_rfl
@[simp] theorem zeroOf88 : Ev.zeroOf Tryd.prog 88 = some Ev.AV.fnil := by kernel_rfl
@[simp] theorem aggT89 : Ev.aggT Tryd.prog 89 = some Bool.false := by kernel_rfl
@[simp] theorem tsz89 : Ev.tsz Tryd.prog 89 = some 1 := by kernel_rfl
@[simp] theorem tbytes89 : Ev.tbytes Tryd.prog 89 = some 8 := by kernel_rfl
@[simp] theorem zeroOf89 : Ev.zeroOf Tryd.prog 89 = some Ev.AV.fnil := by kernel_rfl
@[simp] theorem aggT90 : Ev.aggT Tryd.prog 90 = some Bool.false := by kernel_rfl
@[simp] theorem tsz90 : Ev.tsz Tryd.prog 90 = some 1 := by kernel_rfl
@[simp] theorem tbytes90 : Ev.tbytes Tryd.prog 90 = some 8 := by kernel_rfl
@[simp] theorem zeroOf90 : Ev.zeroOf Tryd.prog 90 = some Ev.AV.fnil := by kernel_rfl
@[simp] theorem aggT91 : Ev.aggT Tryd.prog 91 = some Bool.false := by kernel_rfl
@[simp] theorem tsz91 : Ev.tsz Tryd.prog 91 = some 1 := by kernel_rfl
@[simp] theorem tbytes91 : Ev.tbytes Tryd.prog 91 = some 8 := by kernel_rfl
@[simp] theorem zeroOf91 : Ev.zeroOf Tryd.prog 91 = some Ev.AV.fnil := by kernel_rfl
@[simp] theorem aggT92 : Ev.aggT Tryd.prog 92 = some Bool.false := by kernel_rfl
@[simp] theorem tsz92 : Ev.tsz Tryd.prog 92 = some 1 := by kernel_rfl
@[simp] theorem tbytes92 : Ev.tbytes Tryd.prog 92 = some 8 := by kernel_rfl
@[simp] theorem zeroOf92 : Ev.zeroOf Tryd.prog 92 = some Ev.AV.fnil := by kernel_rfl
@[simp] theorem aggT93 : Ev.aggT Tryd.prog 93 = some Bool.false := by kernel_rfl
@[simp] theorem tsz93 : Ev.tsz Tryd.prog 93 = some 1 := by kernel_rfl
@[simp] theorem tbytes93 : Ev.tbytes Tryd.prog 93 = some 8 := by kernel_rfl
@[simp] theorem zeroOf93 : Ev.zeroOf Tryd.prog 93 = some Ev.AV.fnil := by kernel_rfl
@[simp] theorem aggT94 : Ev.aggT Tryd.prog 94 = some Bool.true := by kernel_rfl
@[simp] theorem tsz94 : Ev.tsz Tryd.prog 94 = some 3 := by kernel_rfl
@[simp] theorem tbytes94 : Ev.tbytes Tryd.prog 94 = some 24 := by kernel_rfl
@[simp] theorem placesOf94 : Ev.placesOf Tryd.prog 94 = some [(0, 1), (1, 1), (2, 1)] := by kernel_rfl
@[simp] theorem zeroOf94 : Ev.zeroOf Tryd.prog 94 = some (Ev.AV.agg [Ev.AV.int Go.IntKind.i64 0, Ev.AV.int Go.IntKind.i64 0, Ev.AV.int Go.IntKind.i64 0]) := by kernel_rfl
@[simp] theorem aggT95 : Ev.aggT Tryd.prog 95 = some Bool.true := by kernel_rfl
@[simp] theorem tsz95 : Ev.tsz Tryd.prog 95 = some 3 := by kernel_rfl
@[simp] theorem tbytes95 : Ev.tbytes Tryd.prog 95 = some 24 := by kernel_rfl
@[simp] theorem placesOf95 : Ev.placesOf Tryd.prog 95 = some [(0, 1), (1, 1), (2, 1)] := by kernel_rfl
@[simp] theorem zeroOf95 : Ev.zeroOf Tryd.prog 95 = some (Ev.AV.agg [Ev.AV.int Go.IntKind.i64 0, Ev.AV.int Go.IntKind.i64 0, Ev.AV.int Go.IntKind.i64 0]) := by kernel_rfl
@[simp] theorem aggT96 : Ev.aggT Tryd.prog 96 = some Bool.false := by kernel_rfl
@[simp] theorem tsz96 : Ev.tsz Tryd.prog 96 = some 1 := by kernel_rfl
@[simp] theorem tbytes96 : Ev.tbytes Tryd.prog 96 = some 8 := by kernel_rfl
@[simp] theorem zeroOf96 : Ev.zeroOf Tryd.prog 96 = some Ev.AV.fnil := by kernel_rfl
@[simp] theorem aggT97 : Ev.aggT Tryd.prog 97 = some Bool.false := by kernel_rfl
@[simp] theorem tsz97 : Ev.tsz Tryd.prog 97 = some 1 := by kernel_rfl
@[simp] theorem tbytes97 : Ev.tbytes Tryd.prog 97 = some 4 := by kernel_rfl
@[simp] theorem zeroOf97 : Ev.zeroOf Tryd.prog 97 = some (Ev.AV.int Go.IntKind.u32 0) := by kernel_rfl
@[simp] theorem aggT98 : Ev.aggT Tryd.prog 98 = some Bool.false := by kernel_rfl
@[simp] theorem tsz98 : Ev.tsz Tryd.prog 98 = some 1 := by kernel_rfl
@[simp] theorem tbytes98 : Ev.tbytes Tryd.prog 98 = some 0 := by kernel_rfl
@[simp] theorem zeroOf98 : Ev.zeroOf Tryd.prog 98 = some Ev.AV.undef := by kernel_rfl
@[simp] theorem aggT99 : Ev.aggT Tryd.prog 99 = some Bool.false := by kernel_rfl
@[simp] theorem tsz99 : Ev.tsz Tryd.prog 99 = some 1 := by kernel_rfl
@[simp] theorem tbytes99 : Ev.tbytes Tryd.prog 99 = some 8 := by kernel_rfl
@[simp] theorem zeroOf99 : Ev.zeroOf Tryd.prog 99 = some Ev.AV.fnil := by kernel_rfl
@[simp] theorem aggT100 : Ev.aggT Tryd.prog 100 = some Bool.false := by kernel_rfl
@[simp] theorem tsz100 : Ev.tsz Tryd.prog 100 = some 1 := by kernel_rfl
@[simp] theorem tbytes100 : Ev.tbytes Tryd.prog 100 = some 8 := by kernel_rfl
@[simp] theorem zeroOf100 : Ev.zeroOf Tryd.prog 100 = some (Ev.AV.int Go.IntKind.u64 0) := by kernel_rfl
@[simp] theorem aggT101 : Ev.aggT Tryd.prog 101 = some Bool.false := by kernel_rfl
@[simp] theorem tsz101 : Ev.tsz Tryd.prog 101 = some 1 := by kernel_rfl
@[simp] theorem tbytes101 : Ev.tbytes Tryd.prog 101 = some 0 := by kernel_rfl
@[simp] theorem zeroOf101 : Ev.zeroOf Tryd.prog 101 = some Ev.AV.undef := by kernel_rfl
@[simp] theorem aggT102 : Ev.aggT Tryd.prog 102 = some Bool.false := by kernel_rfl
@[simp] theorem tsz102 : Ev.tsz Tryd.prog 102 = some 1 := by kernel_rfl
@[simp] theorem tbytes102 : Ev.tbytes Tryd.prog 102 = some 8 := by kernel_rfl
@[simp] theorem zeroOf102 : Ev.zeroOf Tryd.prog 102 = some Ev.AV.fnil := by kernel_rfl
@[simp] theorem aggT103 : Ev.aggT Tryd.prog 103 = some Bool.false := by kernel_rfl
@[simp] theorem tsz103 : Ev.tsz Tryd.prog 103 = some 1 := by kernel_rfl
@[simp] theorem tbytes103 : Ev.tbytes Tryd.prog 103 = some 8 := by kernel_rfl
@[simp] theorem zeroOf103 : Ev.zeroOf Tryd.prog 103 = some Ev.AV.pnil := by kernel_rfl
@[simp] theorem aggT104 : Ev.aggT Tryd.prog 104 = some Bool.false := by kernel_rfl
@[simp] theorem tsz104 : Ev.tsz Tryd.prog 104 = some 1 := by kernel_rfl
@[simp] theorem tbytes104 : Ev.tbytes Tryd.prog 104 = some 8 := by kernel_rfl
@[simp] theorem zeroOf104 : Ev.zeroOf Tryd.prog 104 = some Ev.AV.fnil := by kernel_rfl
@[simp] theorem aggT105 : Ev.aggT Tryd.prog 105 = some Bool.false := by kernel_rfl
@[simp] theorem tsz105 : Ev.tsz Tryd.prog 105 = some 1 := by kernel_rfl
@[simp] theorem tbytes105 : Ev.tbytes Tryd.prog 105 = some 8 := by kernel_rfl
@[simp] theorem zeroOf105 : Ev.zeroOf Tryd.prog 105 = some Ev.AV.fnil := by kernel_rfl
@[simp] theorem aggT106 : Ev.aggT Tryd.prog 106 = some Bool.true := by kernel_rfl
@[simp] theorem tsz106 : Ev.tsz Tryd.prog 106 = some 256 := by kernel_rfl
@[simp] theorem tbytes106 : Ev.tbytes Tryd.prog 106 = some 256 := by kernel_rfl
@[simp] theorem placesOf106 : Ev.placesOf Tryd.prog 106 = some [(0, 1), (1, 1), (2, 1), (3, 1), (4, 1), (5, 1), (6, 1), (7, 1), (8, 1), (9, 1), (10, 1), (11, 1), (12, 1), (13, 1), (14, 1), (15, 1), (16, 1), (17, 1), (18, 1), (19, 1), (20, 1), (21, 1), (22, 1), (23, 1), (24, 1), (25, 1), (26, 1), (27, 1), (28, 1), (29, 1), (30, 1), (31, 1), (32, 1), (33, 1), (34, 1), (35, 1), (36, 1), (37, 1), (38, 1), (39, 1), (40, 1), (41, 1), (42, 1), (43, 1), (44, 1), (45, 1), (46, 1), (47, 1), (48, 1), (49, 1), (50, 1), (51, 1), (52, 1), (53, 1), (54, 1), (55, 1), (56, 1), (57, 1), (58, 1), (59, 1), (60, 1), (61, 1), (62, 1), (63, 1), (64, 1), (65, 1), (66, 1), (67, 1), (68, 1), (69, 1), (70, 1), (71, 1), (72, 1), (73, 1), (74, 1), (75, 1), (76, 1), (77, 1), (78, 1), (79, 1), (80, 1), (81, 1), (82, 1), (83, 1), (84, 1), (85, 1), (86, 1), (87, 1), (88, 1), (89, 1), (90, 1), (91, 1), (92, 1), (93, 1), (94, 1), (95, 1), (96, 1), (97, 1), (98, 1), (99, 1), (100, 1), (101, 1), (102, 1), (103, 1), (104, 1), (105, 1), (106, 1), (107, 1), (108, 1), (109, 1), (110, 1), (111, 1), (112, 1), (113, 1), (114, 1), (115, 1), (116, 1), (117, 1), (118, 1), (119, 1), (120, 1), (121, 1), (122, 1), (123, 1), (124, 1), (125, 1), (126, 1), (127, 1), (128, 1), (129, 1), (130, 1), (131, 1), (132, 1), (133, 1), (134, 1), (135, 1), (136, 1), (137, 1), (138, 1), (139, 1), (140, 1), (141, 1), (142, 1), (143, 1), (144, 1), (145, 1), (146, 1), (147, 1), (148, 1), (149, 1), (150, 1), (151, 1), (152, 1), (153, 1), (154, 1), (155, 1), (156, 1), (157, 1), (158, 1), (159, 1), (160, 1), (161, 1), (162, 1), (163, 1), (164, 1), (165, 1), (166, 1), (167, 1), (168, 1), (169, 1), (170, 1), (171, 1), (172, 1), (173, 1), (174, 1), (175, 1), (176, 1), (177, 1), (178, 1), (179, 1), (180, 1), (181, 1), (182, 1), (183, 1), (184, 1), (185, 1), (186, 1), (187, 1), (188, 1), (189, 1), (190, 1), (191, 1), (192, 1), (193, 1), (194, 1), (195, 1), (196, 1), (197, 1), (198, 1), (199, 1), (200, 1), (201, 1), (202, 1), (203, 1), (204, 1), (205, 1), (206, 1), (207, 1), (208, 1), (209, 1), (210, 1), (211, 1), (212, 1), (213, 1), (214, 1), (215, 1), (216, 1), (217, 1), (218, 1), (219, 1), (220, 1), (221, 1), (222, 1), (223, 1), (224, 1), (225, 1), (226, 1), (227, 1), (228, 1), (229, 1), (230, 1), (231, 1), (232, 1), (233, 1), (234, 1), (235, 1), (236, 1), (237, 1), (238, 1), (239, 1), (240, 1), (241, 1), (242, 1), (243, 1), (244, 1), (245, 1), (246, 1), (247, 1), (248, 1), (249, 1), (250, 1), (251, 1), (252, 1), (253, 1), (254, 1), (255, 1)] := by kernel_rfl
@[simp] theorem elemT106 : Ev.elemT Tryd.prog 106 = none := by kernel_rfl
@[simp] theorem zeroOf106 : Ev.zeroOf Tryd.prog 106 = some (Ev.AV.agg [Ev.AV.bool Bool.false, Ev.AV.bool Bool.false, Ev.AV.bool Bool.false, Ev.AV.bool Bool.false, Ev.AV.bool Bool.false, Ev.AV.bool Bool.false, Ev.AV.bool Bool.false, Ev.AV.bool Bool.false, Ev.AV.bool Bool.false, Ev.AV.bool Bool.false, Ev.AV.bool Bool.false, Ev.AV.bool Bool.false, Ev.AV.bool Bool.false, Ev.AV.bool Bool.false, Ev.AV.bool Bool.false, Ev.AV.bool Bool.false, Ev.AV.bool Bool.false, Ev.AV.bool Bool.false, Ev.AV.bool Bool.false, Ev.AV.bool Bool.false, Ev.AV.bool Bool.false, Ev.AV.bool Bool.false, Ev.AV.bool Bool.false, Ev.AV.bool Bool.false, Ev.AV.bool Bool.false, Ev.AV.bool Bool.false, Ev.AV.bool Bool.false, Ev.AV.bool Bool.false, Ev.AV.bool Bool.false, Ev.AV.bool Bool.false, Ev.AV.bool Bool.false, Ev.AV.bool Bool.false, Ev.AV.bool Bool.false, Ev.AV.bool Bool.false, Ev.AV.bool Bool.false, Ev.AV.bool Bool.false, Ev.AV.bool Bool.false, Ev.AV.bool Bool.false, Ev.AV.bool Bool.false, Ev.AV.bool Bool.false, Ev.AV.bool Bool.false, Ev.AV.bool Bool.false, Ev.AV.bool Bool.false, Ev.AV.bool Bool.false, Ev.AV.bool Bool.false, Ev.AV.bool Bool.false, Ev.AV.bool Bool.false, Ev.AV.bool Bool.false, Ev.AV.bool Bool.false, Ev.AV.bool Bool.false, Ev.AV.bool Bool.false, Ev.AV.bool Bool.false, Ev.AV.bool Bool.false, Ev.AV.bool Bool.false, Ev.AV.bool Bool.false, Ev.AV.bool Bool.false, Ev.AV.bool Bool.false, Ev.AV.bool Bool.false, Ev.AV.bool Bool.false, Ev.AV.bool Bool.false, Ev.AV.bool Bool.false, Ev.AV.bool Bool.false, Ev.AV.bool Bool.false, Ev.AV.bool Bool.false, Ev.AV.bool Bool.false, Ev.AV.bool Bool.false, Ev.AV.bool Bool.false, Ev.AV.bool Bool.false, Ev.AV.bool Bool.false, Ev.AV.bool Bool.false, Ev.AV.bool Bool.false, Ev.AV.bool Bool.false, Ev.AV.bool Bool.false, Ev.AV.bool Bool.false, Ev.AV.bool Bool.false, Ev.AV.bool Bool.false, Ev.AV.bool Bool.false, Ev.AV.bool Bool.false, Ev.AV.bool Bool.false, Ev.AV.bool Bool.false, Ev.AV.bool Bool.false, Ev.AV.bool Bool.false, Ev.AV.bool Bool.false, Ev.AV.bool Bool.false, Ev.AV.bool Bool.false, Ev.AV.bool Bool.false, Ev.AV.bool Bool.false, Ev.AV.bool Bool.false, Ev.AV.bool Bool.false, Ev.AV.bool Bool.false, Ev.AV.bool Bool.false, Ev.AV.bool Bool.false, Ev.AV.bool Bool.false, Ev.AV.bool Bool.false, Ev.AV.bool Bool.false, Ev.AV.bool Bool.false, Ev.AV.bool Bool.false, Ev.AV.bool Bool.false, Ev.AV.bool Bool.false, Ev.AV.bool Bool.false, Ev.AV.bool Bool.false, Ev.AV.bool Bool.false, Ev.AV.bool Bool.false, Ev.AV.bool Bool.false, Ev.AV.bool Bool.false, Ev.AV.bool Bool.false, Ev.AV.bool Bool.false, Ev.AV.bool Bool.false, Ev.AV.bool Bool.false, Ev.AV.bool Bool.false, Ev.AV.bool Bool.false, Ev.AV.bool Bool.false, Ev.AV.bool Bool.false, Ev.AV.bool Bool.false, Ev.AV.bool Bool.false, Ev.AV.bool Bool.false, Ev.AV.bool Bool.false, Ev.AV.bool Bool.false, Ev.AV.bool Bool.false, Ev.AV.bool Bool.false, Ev.AV.bool Bool.false, Ev.AV.bool Bool.false, Ev.AV.bool Bool.false, Ev.AV.bool Bool.false, Ev.AV.bool Bool.false, Ev.AV.bool Bool.false, Ev.AV.bool Bool.false, Ev.AV.bool Bool.false, Ev.AV.bool Bool.false, Ev.AV.bool Bool.false, Ev.AV.bool Bool.false, Ev.AV.bool Bool.false, Ev.AV.bool Bool.false, Ev.AV.bool Bool.false, Ev.AV.bool Bool.false, Ev.AV.bool Bool.false, Ev.AV.bool Bool.false, Ev.AV.bool Bool.false, Ev.AV.bool Bool.false, Ev.AV.bool Bool.false, Ev.AV.bool Bool.false, Ev.AV.bool Bool.false, Ev.AV.bool Bool.false, Ev.AV.bool Bool.false, Ev.AV.bool Bool.false, Ev.AV.bool Bool.false, Ev.AV.bool Bool.false, Ev.AV.bool Bool.false, Ev.AV.bool Bool.false, Ev.AV.bool Bool.false, Ev.AV.bool Bool.false, Ev.AV.bool Bool.false, Ev.AV.bool Bool.false, Ev.AV.bool Bool.false, Ev.AV.bool Bool.false, Ev.AV.bool Bool.false, Ev.AV.bool Bool.false, Ev.AV.bool Bool.false, Ev.AV.bool Bool.false, Ev.AV.bool Bool.false, Ev.AV.bool Bool.false, Ev.AV.bool Bool.false, Ev.AV.bool Bool.false, Ev.AV.bool Bool.false, Ev.AV.bool Bool.false, Ev.AV.bool Bool.false, Ev.AV.bool Bool.false, Ev.AV.bool Bool.false, Ev.AV.bool Bool.false, Ev.AV.bool Bool.false, Ev.AV.bool Bool.false, Ev.AV.bool Bool.false, Ev.AV.bool Bool.false, Ev.AV.bool Bool.false, Ev.AV.bool Bool.false, Ev.AV.bool Bool.false, Ev.AV.bool Bool.false, Ev.AV.bool Bool.false, Ev.AV.bool Bool.false, Ev.AV.bool Bool.false, Ev.AV.bool Bool.false, Ev.AV.bool Bool.false, Ev.AV.bool Bool.false, Ev.AV.bool Bool.false, Ev.AV.bool Bool.false, Ev.AV.bool Bool.false, Ev.AV.bool Bool.false, Ev.AV.bool Bool.false, Ev.AV.bool Bool.false, Ev.AV.bool Bool.false, Ev.AV.bool Bool.false, Ev.AV.bool Bool.false, Ev.AV.bool Bool.false, Ev.AV.bool Bool.false, Ev.AV.bool Bool.false, Ev.AV.bool Bool.false, Ev.AV.bool Bool.false, Ev.AV.bool Bool.false, Ev.AV.bool Bool.false, Ev.AV.bool Bool.false, Ev.AV.bool Bool.false, Ev.AV.bool Bool.false, Ev.AV.bool Bool.false, Ev.AV.bool Bool.false, Ev.AV.bool Bool.false, Ev.AV.bool Bool.false, Ev.AV.bool Bool.false, Ev.AV.bool Bool.false, Ev.AV.bool Bool.false, Ev.AV.bool Bool.false, Ev.AV.bool Bool.false, Ev.AV.bool Bool.false, Ev.AV.bool Bool.false, Ev.AV.bool Bool.false, Ev.AV.bool Bool.false, Ev.AV.bool Bool.false, Ev.AV.bool Bool.false, Ev.AV.bool Bool.false, Ev.AV.bool Bool.false, Ev.AV.bool Bool.false, Ev.AV.bool Bool.false, Ev.AV.bool Bool.false, Ev.AV.bool Bool.false, Ev.AV.bool Bool.false, Ev.AV.bool Bool.false, Ev.AV.bool Bool.false, Ev.AV.bool Bool.false, Ev.AV.bool Bool.false, Ev.AV.bool Bool.false, Ev.AV.bool Bool.false, Ev.AV.bool Bool.false, Ev.AV.bool Bool.false, Ev.AV.bool Bool.false, Ev.AV.bool Bool.false, Ev.AV.bool Bool.false, Ev.AV.bool Bool.false, Ev.AV.bool Bool.false, Ev.AV.bool Bool.false, Ev.AV.bool Bool.false, Ev.AV.bool Bool.false, Ev.AV.bool Bool.false, Ev.AV.bool Bool.false, Ev.AV.bool Bool.false, Ev.AV.bool Bool.false, Ev.AV.bool Bool.false, Ev.AV.bool Bool.false, Ev.AV.bool Bool.false, Ev.AV.bool Bool.false, Ev.AV.bool Bool.false, Ev.AV.bool Bool.false, Ev.AV.bool Bool.false, Ev.AV.bool Bool.false, Ev.AV.bool Bool.false, Ev.AV.bool Bool.false, Ev.AV.bool Bool.false, Ev.AV.bool Bool.false]) := by kernel_rfl
@[simp] theorem arrT106 : Ev.arrT Tryd.prog 106 = some (256, 1) := by kernel_rfl
@[simp] theorem aggT107 : Ev.aggT Tryd.prog 107 = some Bool.true := by kernel_rfl
@[simp] theorem tsz107 : Ev.tsz Tryd.prog 107 = some 256 := by kernel_rfl
@[simp] theorem tbytes107 : Ev.tbytes Tryd.prog 107 = some 256 := by kernel_rfl
@[simp] theorem placesOf107 : Ev.placesOf Tryd.prog 107 = some [(0, 1), (1, 1), (2, 1), (3, 1), (4, 1), (5, 1), (6, 1), (7, 1), (8, 1), (9, 1), (10, 1), (11, 1), (12, 1), (13, 1), (14, 1), (15, 1), (16, 1), (17, 1), (18, 1), (19, 1), (20, 1), (21, 1), (22, 1), (23, 1), (24, 1), (25, 1), (26, 1), (27, 1), (28, 1), (29, 1), (30, 1), (31, 1), (32, 1), (33, 1), (34, 1), (35, 1), (36, 1), (37, 1), (38, 1), (39, 1), (40, 1), (41, 1), (42, 1), (43, 1), (44, 1), (45, 1), (46, 1), (47, 1), (48, 1), (49, 1), (50, 1), (51, 1), (52, 1), (53, 1), (54, 1), (55, 1), (56, 1), (57, 1), (58, 1), (59, 1), (60, 1), (61, 1), (62, 1), (63, 1), (64, 1), (65, 1), (66, 1), (67, 1), (68, 1), (69, 1), (70, 1), (71, 1), (72, 1), (73, 1), (74, 1), (75, 1), (76, 1), (77, 1), (78, 1), (79, 1), (80, 1), (81, 1), (82, 1), (83, 1), (84, 1), (85, 1), (86, 1), (87, 1), (88, 1), (89, 1), (90, 1), (91, 1), (92, 1), (93, 1), (94, 1), (95, 1), (96, 1), (97, 1), (98, 1), (99, 1), (100, 1), (101, 1), (102, 1), (103, 1), (104, 1), (105, 1), (106, 1), (107, 1), (108, 1), (109, 1), (110, 1), (111, 1), (112, 1), (113, 1), (114, 1), (115, 1), (116, 1), (117, 1), (118, 1), (119, 1), (120, 1), (121, 1), (122, 1), (123, 1), (124, 1), (125, 1), (126, 1), (127, 1), (128, 1), (129, 1), (130, 1), (131, 1), (132, 1), (133, 1), (134, 1), (135, 1), (136, 1), (137, 1), (138, 1), (139, 1), (140, 1), (141, 1), (142, 1), (143, 1), (144, 1), (145, 1), (146, 1), (147, 1), (148, 1), (149, 1), (150, 1), (151, 1), (152, 1), (153, 1), (154, 1), (155, 1), (156, 1), (157, 1), (158, 1), (159, 1), (160, 1), (161, 1), (162, 1), (163, 1), (164, 1), (165, 1), (166, 1), (167, 1), (168, 1), (169, 1), (170, 1), (171, 1), (172, 1), (173, 1), (174, 1), (175, 1), (176, 1), (177, 1), (178, 1), (179, 1), (180, 1), (181, 1), (182, 1), (183, 1), (184, 1), (185, 1), (186, 1), (187, 1), (188, 1), (189, 1), (190, 1), (191, 1), (192, 1), (193, 1), (194, 1), (195, 1), (196, 1), (197, 1), (198, 1), (199, 1), (200, 1), (201, 1), (202, 1), (203, 1), (204, 1), (205, 1), (206, 1), (207, 1), (208, 1), (209, 1), (210, 1), (211, 1), (212, 1), (213, 1), (214, 1), (215, 1), (216, 1), (217, 1), (218, 1), (219, 1), (220, 1), (221, 1), (222, 1), (223, 1), (224, 1), (225, 1), (226, 1), (227, 1), (228, 1), (229, 1), (230, 1), (231, 1), (232, 1), (233, 1), (234, 1), (235, 1), (236, 1), (237, 1), (238, 1), (239, 1), (240, 1), (241, 1), (242, 1), (243, 1), (244, 1), (245, 1), (246, 1), (247, 1), (248, 1), (249, 1), (250, 1), (251, 1), (252, 1), (253, 1), (254, 1), (255, 1)] := by kernel_rfl
@[simp] theorem elemT107 : Ev.elemT Tryd.prog 107 = none := by kernel_rfl
@[simp] theorem zeroOf107 : Ev.zeroOf Tryd.prog 107 = some (Ev.AV.agg [Ev.AV.bool Bool.false, Ev.AV.bool Bool.false, Ev.AV.bool Bool.false, Ev.AV.bool Bool.false, Ev.AV.bool Bool.false, Ev.AV.bool Bool.false, Ev.AV.bool Bool.false, Ev.AV.bool Bool.false, Ev.AV.bool Bool.false, Ev.AV.bool Bool.false, Ev.AV.bool Bool.false, Ev.AV.bool Bool.false, Ev.AV.bool Bool.false, Ev.AV.bool Bool.false, Ev.AV.bool Bool.false, Ev.AV.bool Bool.false, Ev.AV.bool Bool.false, Ev.AV.bool Bool.false, Ev.AV.bool Bool.false, Ev.AV.bool Bool.false, Ev.AV.bool Bool.false, Ev.AV.bool Bool.false, Ev.AV.bool Bool.false, Ev.AV.bool Bool.false, Ev.AV.bool Bool.false, Ev.AV.bool Bool.false, Ev.AV.bool Bool.false, Ev.AV.bool Bool.false, Ev.AV.bool Bool.false, Ev.AV.bool Bool.false, Ev.AV.bool Bool.false, Ev.AV.bool Bool.false, Ev.AV.bool Bool.false, Ev.AV.bool Bool.false, Ev.AV.bool Bool.false, Ev.AV.bool Bool.false, Ev.AV.bool Bool.false, Ev.AV.bool Bool.false, Ev.AV.bool Bool.false, Ev.AV.bool Bool.false, Ev.AV.bool Bool.false, Ev.AV.bool Bool.false, Ev.AV.bool Bool.false, Ev.AV.bool Bool.false, Ev.AV.bool Bool.false, Ev.AV.bool Bool.false, Ev.AV.bool Bool.false, Ev.AV.bool Bool.false, Ev.AV.bool Bool.false, Ev.AV.bool Bool.false, Ev.AV.bool Bool.false, Ev.AV.bool Bool.false, Ev.AV.bool Bool.false, Ev.AV.bool Bool.false, Ev.AV.bool Bool.false, Ev.AV.bool Bool.false, Ev.AV.bool Bool.false, Ev.AV.bool Bool.false, Ev.AV.bool Bool.false, Ev.AV.bool Bool.false, Ev.AV.bool Bool.false, Ev.AV.bool Bool.false, Ev.AV.bool Bool.false, Ev.AV.bool Bool.false, Ev.AV.bool Bool.false, Ev.AV.bool Bool.false, Ev.AV.bool Bool.false, Ev.AV.bool Bool.false, Ev.AV.bool Bool.false, Ev.AV.bool Bool.false, Ev.AV.bool Bool.false, Ev.AV.bool Bool.false, Ev.AV.bool Bool.false, Ev.AV.bool Bool.false, Ev.AV.bool Bool.false, Ev.AV.bool Bool.false, Ev.AV.bool Bool.false, Ev.AV.bool Bool.false, Ev.AV.bool Bool.false, Ev.AV.bool Bool.false, Ev.AV.bool Bool.false, Ev.AV.bool Bool.false, Ev.AV.bool Bool.false, Ev.AV.bool Bool.false, Ev.AV.bool Bool.false, Ev.AV.bool Bool.false, Ev.AV.bool Bool.false, Ev.AV.bool Bool.false, Ev.AV.bool Bool.false, Ev.AV.bool Bool.false, Ev.AV.bool Bool.false, Ev.AV.bool Bool.false, Ev.AV.bool Bool.false, Ev.AV.bool Bool.false, Ev.AV.bool Bool.false, Ev.AV.bool Bool.false, Ev.AV.bool Bool.false, Ev.AV.bool Bool.false, Ev.AV.bool Bool.false, Ev.AV.bool Bool.false, Ev.AV.bool Bool.false, Ev.AV.bool Bool.false, Ev.AV.bool Bool.false, Ev.AV.bool Bool.false, Ev.AV.bool Bool.false, Ev.AV.bool Bool.false, Ev.AV.bool Bool.false, Ev.AV.bool Bool.false, Ev.AV.bool Bool.false, Ev.AV.bool Bool.false, Ev.AV.bool Bool.false, Ev.AV.bool Bool.false, Ev.AV.bool Bool.false, Ev.AV.bool Bool.false, Ev.AV.bool Bool.false, Ev.AV.bool Bool.false, Ev.AV.bool Bool.false, Ev.AV.bool Bool.false, Ev.AV.bool Bool.false, Ev.AV.bool Bool.false, Ev.AV.bool Bool.false, Ev.AV.bool Bool.false, Ev.AV.bool Bool.false, Ev.AV.bool Bool.false, Ev.AV.bool Bool.false, Ev.AV.bool Bool.false, Ev.AV.bool Bool.false, Ev.AV.bool Bool.false, Ev.AV.bool Bool.false, Ev.AV.bool Bool.false, Ev.AV.bool Bool.false, Ev.AV.bool Bool.false, Ev.AV.bool Bool.false, Ev.AV.bool Bool.false, Ev.AV.bool Bool.false, Ev.AV.bool Bool.false, Ev.AV.bool Bool.false, Ev.AV.bool Bool.false, Ev.AV.bool Bool.false, Ev.AV.bool Bool.false, Ev.AV.bool Bool.false, Ev.AV.bool Bool.false, Ev.AV.bool Bool.false, Ev.AV.bool Bool.false, Ev.AV.bool Bool.false, Ev.AV.bool Bool.false, Ev.AV.bool Bool.false, Ev.AV.bool Bool.false, Ev.AV.bool Bool.false, Ev.AV.bool Bool.false, Ev.AV.bool Bool.false, Ev.AV.bool Bool.false, Ev.AV.bool Bool.false, Ev.AV.bool Bool.false, Ev.AV.bool Bool.false, Ev.AV.bool Bool.false, Ev.AV.bool Bool.false, Ev.AV.bool Bool.false, Ev.AV.bool Bool.false, Ev.AV.bool Bool.false, Ev.AV.bool Bool.false, Ev.AV.bool Bool.false, Ev.AV.bool Bool.false, Ev.AV.bool Bool.false, Ev.AV.bool Bool.false, Ev.AV.bool Bool.false, Ev.AV.bool Bool.false, Ev.AV.bool Bool.false, Ev.AV.bool Bool.false, Ev.AV.bool Bool.false, Ev.AV.bool Bool.false, Ev.AV.bool Bool.false, Ev.AV.bool Bool.false, Ev.AV.bool Bool.false, Ev.AV.bool Bool.false, Ev.AV.bool Bool.false, Ev.AV.bool Bool.false, Ev.AV.bool Bool.false, Ev.AV.bool Bool.false, Ev.AV.bool Bool.false, Ev.AV.bool Bool.false, Ev.AV.bool Bool.false, Ev.AV.bool Bool.false, Ev.AV.bool Bool.false, Ev.AV.bool Bool.false, Ev.AV.bool Bool.false, Ev.AV.bool Bool.false, Ev.AV.bool Bool.false, Ev.AV.bool Bool.false, Ev.AV.bool Bool.false, Ev.AV.bool Bool.false, Ev.AV.bool Bool.false, Ev.AV.bool Bool.false, Ev.AV.bool Bool.false, Ev.AV.bool Bool.false, Ev.AV.bool Bool.false, Ev.AV.bool Bool.false, Ev.AV.bool Bool.false, Ev.AV.bool Bool.false, Ev.AV.bool Bool.false, Ev.AV.bool Bool.false, Ev.AV.bool Bool.false, Ev.AV.bool Bool.false, Ev.AV.bool Bool.false, Ev.AV.bool Bool.false, Ev.AV.bool Bool.false, Ev.AV.bool Bool.false, Ev.AV.bool Bool.false, Ev.AV.bool Bool.false, Ev.AV.bool Bool.false, Ev.AV.bool Bool.false, Ev.AV.bool Bool.false, Ev.AV.bool Bool.false, Ev.AV.bool Bool.false, Ev.AV.bool Bool.false, Ev.AV.bool Bool.false, Ev.AV.bool Bool.false, Ev.AV.bool Bool.false, Ev.AV.bool Bool.false, Ev.AV.bool Bool.false, Ev.AV.bool Bool.false, Ev.AV.bool Bool.false, Ev.AV.bool Bool.false, Ev.AV.bool Bool.false, Ev.AV.bool Bool.false, Ev.AV.bool Bool.false, Ev.AV.bool Bool.false, Ev.AV.bool Bool.false, Ev.AV.bool Bool.false, Ev.AV.bool Bool.false, Ev.AV.bool Bool.false, Ev.AV.bool Bool.false, Ev.AV.bool Bool.false, Ev.AV.bool Bool.false, Ev.AV.bool Bool.false, Ev.AV.bool Bool.false, Ev.AV.bool Bool.false, Ev.AV.bool Bool.false, Ev.AV.bool Bool.false, Ev.AV.bool Bool.false, Ev.AV.bool Bool.false, Ev.AV.bool Bool.false, Ev.AV.bool Bool.false, Ev.AV.bool Bool.false, Ev.AV.bool Bool.false, Ev.AV.bool Bool.false, Ev.AV.bool Bool.false, Ev.AV.bool Bool.false, Ev.AV.bool Bool.false, Ev.AV.bool Bool.false, Ev.AV.bool Bool.false, Ev.AV.bool Bool.false, Ev.AV.bool Bool.false, Ev.AV.bool Bool.false, Ev.AV.bool Bool.false, Ev.AV.bool Bool.false]) := by kernel_rfl
@[simp] theorem arrT107 : Ev.arrT Tryd.prog 107 = some (256, 1) := by kernel_rfl
@[simp] theorem aggT108 : Ev.aggT Tryd.prog 108 = some Bool.false := by kernel_rfl
@[simp] theorem tsz108 : Ev.tsz Tryd.prog 108 = some 1 := by kernel_rfl
@[simp] theorem tbytes108 : Ev.tbytes Tryd.prog 108 = some 0 := by kernel_rfl
@[simp] theorem zeroOf108 : Ev.zeroOf Tryd.prog 108 = some Ev.AV.undef := by kernel_rfl
@[simp] theorem aggT109 : Ev.aggT Tryd.prog 109 = some Bool.false := by kernel_rfl
@[simp] theorem tsz109 : Ev.tsz Tryd.prog 109 = some 1 := by kernel_rfl
@[simp] theorem tbytes109 : Ev.tbytes Tryd.prog 109 = some 8 := by kernel_rfl
@[simp] theorem zeroOf109 : Ev.zeroOf Tryd.prog 109 = some Ev.AV.fnil := by kernel_rfl
@[simp] theorem aggT110 : Ev.aggT Tryd.prog 110 = some Bool.false := by kernel_rfl
@[simp] theorem tsz110 : Ev.tsz Tryd.prog 110 = some 1 := by kernel_rfl
@[simp] theorem tbytes110 : Ev.tbytes Tryd.prog 110 = some 8 := by kernel_rfl
@[simp] theorem zeroOf110 : Ev.zeroOf Tryd.prog 110 = some Ev.AV.fnil := by kernel_rfl
@[simp] theorem aggT111 : Ev.aggT Tryd.prog 111 = some Bool.false := by kernel_rfl
@[simp] theorem tsz111 : Ev.tsz Tryd.prog 111 = some 1 := by kernel_rfl
@[simp] theorem tbytes111 : Ev.tbytes Tryd.prog 111 = some 8 := by kernel_rfl
@[simp] theorem zeroOf111 : Ev.zeroOf Tryd.prog 111 = some Ev.AV.pnil := by kernel_rfl
@[simp] theorem aggT112 : Ev.aggT Tryd.prog 112 = some Bool.false := by kernel_rfl
@[simp] theorem tsz112 : Ev.tsz Tryd.prog 112 = some 1 := by kernel_rfl
@[simp] theorem tbytes112 : Ev.tbytes Tryd.prog 112 = some 8 := by kernel_rfl
@[simp] theorem zeroOf112 : Ev.zeroOf Tryd.prog 112 = some Ev.AV.fnil := by kernel_rfl
@[simp] theorem aggT113 : Ev.aggT Tryd.prog 113 = some Bool.false := by kernel_rfl
@[simp] theorem tsz113 : Ev.tsz Tryd.prog 113 = some 1 := by kernel_rfl
@[simp] theorem tbytes113 : Ev.tbytes Tryd.prog 113 = some 8 := by kernel_rfl
@[simp] theorem zeroOf113 : Ev.zeroOf Tryd.prog 113 = some Ev.AV.fnil := by kernel_rfl
@[simp] theorem aggT114 : Ev.aggT Tryd.prog 114 = some Bool.false := by kernel_rfl
@[simp] theorem tsz114 : Ev.tsz Tryd.prog 114 = some 1 := by kernel_rfl
@[simp] theorem tbytes114 : Ev.tbytes Tryd.prog 114 = some 8 := by kernel_rfl
@[simp] theorem zeroOf114 : Ev.zeroOf Tryd.prog 114 = some Ev.AV.pnil := by kernel_rfl
@[simp] theorem aggT115 : Ev.aggT Tryd.prog 115 = some Bool.false := by kernel_rfl
@[simp] theorem tsz115 : Ev.tsz Tryd.prog 115 = some 1 := by kernel_rfl
@[simp] theorem tbytes115 : Ev.tbytes Tryd.prog 115 = some 8 := by kernel_rfl
@[simp] theorem zeroOf115 : Ev.zeroOf Tryd.prog 115 = some Ev.AV.fnil := by kernel_rfl
@[simp] theorem aggT116 : Ev.aggT Tryd.prog 116 = some Bool.false := by kernel_rfl
@[simp] theorem tsz116 : Ev.tsz Tryd.prog 116 = some 1 := by kernel_rfl
@[simp] theorem tbytes116 : Ev.tbytes Tryd.prog 116 = some 8 := by kernel_rfl
@[simp] theorem zeroOf116 : Ev.zeroOf Tryd.prog 116 = some Ev.AV.fnil := by kernel_rfl
@[simp] theorem aggT117 : Ev.aggT Tryd.prog 117 = some Bool.false := by kernel_rfl
@[simp] theorem tsz117 : Ev.tsz Tryd.prog 117 = some 1 := by kernel_rfl
@[simp] theorem tbytes117 : Ev.tbytes Tryd.prog 117 = some 0 := by kernel_rfl
@[simp] theorem zeroOf117 : Ev.zeroOf Tryd.prog 117 = some Ev.AV.undef := by kernel_rfl
@[simp] theorem aggT118 : Ev.aggT Tryd.prog 118 = some Bool.false := by kernel_rfl
@[simp] theorem tsz118 : Ev.tsz Tryd.prog 118 = some 1 := by kernel_rfl
@[simp] theorem tbytes118 : Ev.tbytes Tryd.prog 118 = some 8 := by kernel_rfl
@[simp] theorem zeroOf118 : Ev.zeroOf Tryd.prog 118 = some Ev.AV.fnil := by kernel_rfl
@[simp] theorem aggT119 : Ev.aggT Tryd.prog 119 = some Bool.false := by kernel_rfl
@[simp] theorem tsz119 : Ev.tsz Tryd.prog 119 = some 1 := by kernel_rfl
@[simp] theorem tbytes119 : Ev.tbytes Tryd.prog 119 = some 8 := by kernel_rfl
@[simp] theorem zeroOf119 : Ev.zeroOf Tryd.prog 119 = some Ev.AV.fnil := by kernel_rfl
@[simp] theorem aggT120 : Ev.aggT Tryd.prog 120 = some Bool.false := by kernel_rfl
@[simp] theorem tsz120 : Ev.tsz Tryd.prog 120 = some 1 := by kernel_rfl
@[simp] theorem tbytes120 : Ev.tbytes Tryd.prog 120 = some 8 := by kernel_rfl
@[simp] theorem zeroOf120 : Ev.zeroOf Tryd.prog 120 = some Ev.AV.fnil := by kernel_rfl
@[simp] theorem aggT121 : Ev.aggT Tryd.prog 121 = some Bool.false := by kernel_rfl
@[simp] theorem tsz121 : Ev.tsz Tryd.prog 121 = some 1 := by kernel_rfl
@[simp] theorem tbytes121 : Ev.tbytes Tryd.prog 121 = some 8 := by kernel_rfl
@[simp] theorem zeroOf121 : Ev.zeroOf Tryd.prog 121 = some Ev.AV.fnil := by kernel_rfl
@[simp] theorem aggT122 : Ev.aggT Tryd.prog 122 = some Bool.false := by kernel_rfl
@[simp] theorem tsz122 : Ev.tsz Tryd.prog 122 = some 1 := by kernel_rfl
@[simp] theorem tbytes122 : Ev.tbytes Tryd.prog 122 = some 8 := by kernel_rfl
@[simp] theorem zeroOf122 : Ev.zeroOf Tryd.prog 122 = some Ev.AV.fnil := by kernel_rfl
@[simp] theorem aggT123 : Ev.aggT Tryd.prog 123 = some Bool.true := by kernel_rfl
@[simp] theorem tsz123 : Ev.tsz Tryd.prog 123 = some 256 := by kernel_rfl
@[simp] theorem tbytes123 : Ev.tbytes Tryd.prog 123 = some 256 := by kernel_rfl
@[simp] theorem placesOf123 : Ev.placesOf Tryd.prog 123 = some [(0, 1), (1, 1), (2, 1), (3, 1), (4, 1), (5, 1), (6, 1), (7, 1), (8, 1), (9, 1), (10, 1), (11, 1), (12, 1), (13, 1), (14, 1), (15, 1), (16, 1), (17, 1), (18, 1), (19, 1), (20, 1), (21, 1), (22, 1), (23, 1), (24, 1), (25, 1), (26, 1), (27, 1), (28, 1), (29, 1), (30, 1), (31, 1), (32, 1), (33, 1), (34, 1), (35, 1), (36, 1), (37, 1), (38, 1), (39, 1), (40, 1), (41, 1), (42, 1), (43, 1), (44, 1), (45, 1), (46, 1), (47, 1), (48, 1), (49, 1), (50, 1), (51, 1), (52, 1), (53, 1), (54, 1), (55, 1), (56, 1), (57, 1), (58, 1), (59, 1), (60, 1), (61, 1), (62, 1), (63, 1), (64, 1), (65, 1), (66, 1), (67, 1), (68, 1), (69, 1), (70, 1), (71, 1), (72, 1), (73, 1), (74, 1), (75, 1), (76, 1), (77, 1), (78, 1), (79, 1), (80, 1), (81, 1), (82, 1), (83, 1), (84, 1), (85, 1), (86, 1), (87, 1), (88, 1), (89, 1), (90, 1), (91, 1), (92, 1), (93, 1), (94, 1), (95, 1), (96, 1), (97, 1), (98, 1), (99, 1), (100, 1), (101, 1), (102, 1), (103, 1), (104, 1), (105, 1), (106, 1), (107, 1), (108, 1), (109, 1), (110, 1), (111, 1), (112, 1), (113, 1), (114, 1), (115, 1), (116, 1), (117, 1), (118, 1), (119, 1), (120, 1), (121, 1), (122, 1), (123, 1), (124, 1), (125, 1), (126, 1), (127, 1), (128, 1), (129, 1), (130, 1), (131, 1), (132, 1), (133, 1), (134, 1), (135, 1), (136, 1), (137, 1), (138, 1), (139, 1), (140, 1), (141, 1), (142, 1), (143, 1), (144, 1), (145, 1), (146, 1), (147, 1), (148, 1), (149, 1), (150, 1), (151, 1), (152, 1), (153, 1), (154, 1), (155, 1), (156, 1), (157, 1), (158, 1), (159, 1), (160, 1), (161, 1), (162, 1), (163, 1), (164, 1), (165, 1), (166, 1), (167, 1), (168, 1), (169, 1), (170, 1), (171, 1), (172, 1), (173, 1), (174, 1), (175, 1), (176, 1), (177, 1), (178, 1), (179, 1), (180, 1), (181, 1), (182, 1), (183, 1), (184, 1), (185, 1), (186, 1), (187, 1), (188, 1), (189, 1), (190, 1), (191, 1), (192, 1), (193, 1), (194, 1), (195, 1), (196, 1), (197, 1), (198, 1), (199, 1), (200, 1), (201, 1), (202, 1), (203, 1), (204, 1), (205, 1), (206, 1), (207, 1), (208, 1), (209, 1), (210, 1), (211, 1), (212, 1), (213, 1), (214, 1), (215, 1), (216, 1), (217, 1), (218, 1), (219, 1), (220, 1), (221, 1), (222, 1), (223, 1), (224, 1), (225, 1), (226, 1), (227, 1), (228, 1), (229, 1), (230, 1), (231, 1), (232, 1), (233, 1), (234, 1), (235, 1), (236, 1), (237, 1), (238, 1), (239, 1), (240, 1), (241, 1), (242, 1), (243, 1), (244, 1), (245, 1), (246, 1), (247, 1), (248, 1), (249, 1), (250, 1), (251, 1), (252, 1), (253, 1), (254, 1), (255, 1)] := by kernel_rfl
@[simp] theorem elemT123 : Ev.elemT Tryd.prog 123 = none := by kernel_rfl
@[simp] theorem zeroOf123 : Ev.zeroOf Tryd.prog 123 = some (Ev.AV.agg [Ev.AV.int Go.IntKind.u8 0, Ev.AV.int Go.IntKind.u8 0, Ev.AV.int Go.IntKind.u8 0, Ev.AV.int Go.IntKind.u8 0, Ev.AV.int Go.IntKind.u8 0, Ev.AV.int Go.IntKind.u8 0, Ev.AV.int Go.IntKind.u8 0, Ev.AV.int Go.IntKind.u8 0, Ev.AV.int Go.IntKind.u8 0, Ev.AV.int Go.IntKind.u8 0, Ev.AV.int Go.IntKind.u8 0, Ev.AV.int Go.IntKind.u8 0, Ev.AV.int Go.IntKind.u8 0, Ev.AV.int Go.IntKind.u8 0, Ev.AV.int Go.IntKind.u8 0, Ev.AV.int Go.IntKind.u8 0, Ev.AV.int Go.IntKind.u8 0, Ev.AV.int Go.IntKind.u8 0, Ev.AV.int Go.IntKind.u8 0, Ev.AV.int Go.IntKind.u8 0, Ev.AV.int Go.IntKind.u8 0, Ev.AV.int Go.IntKind.u8 0, Ev.AV.int Go.IntKind.u8 0, Ev.AV.int Go.IntKind.u8 0, Ev.AV.int Go.IntKind.u8 0, Ev.AV.int Go.IntKind.u8 0, Ev.AV.int Go.IntKind.u8 0, Ev.AV.int Go.IntKind.u8 0, Ev.AV.int Go.IntKind.u8 0, Ev.AV.int Go.IntKind.u8 0, Ev.AV.int Go.IntKind.u8 0, Ev.AV.int Go.IntKind.u8 0, Ev.AV.int Go.IntKind.u8 0, Ev.AV.int Go.IntKind.u8 0, Ev.AV.int Go.IntKind.u8 0, Ev.AV.int Go.IntKind.u8 0, Ev.AV.int Go.IntKind.u8 0, Ev.AV.int Go.IntKind.u8 0, Ev.AV.int Go.IntKind.u8 0, Ev.AV.int Go.IntKind.u8 0, Ev.AV.int Go.IntKind.u8 0, Ev.AV.int Go.IntKind.u8 0, Ev.AV.int Go.IntKind.u8 0, Ev.AV.int Go.IntKind.u8 0, Ev.AV.int Go.IntKind.u8 0, Ev.AV.int Go.IntKind.u8 0, Ev.AV.int Go.IntKind.u8 0, Ev.AV.int Go.IntKind.u8 0, Ev.AV.int Go.IntKind.u8 0, Ev.AV.int Go.IntKind.u8 0, Ev.AV.int Go.IntKind.u8 0, Ev.AV.int Go.IntKind.u8 0, Ev.AV.int Go.IntKind.u8 0, Ev.AV.int Go.IntKind.u8 0, Ev.AV.int Go.IntKind.u8 0, Ev.AV.int Go.IntKind.u8 0, Ev.AV.int Go.IntKind.u8 0, Ev.AV.int Go.IntKind.u8 0, Ev.AV.int Go.IntKind.u8 0, Ev.AV.int Go.IntKind.u8 0, Ev.AV.int Go.IntKind.u8 0, Ev.AV.int Go.IntKind.u8 0, Ev.AV.int Go.IntKind.u8 0, Ev.AV.int Go.IntKind.u8 0, Ev.AV.int Go.IntKind.u8 0, Ev.AV.int Go.IntKind.u8 0, Ev.AV.int Go.IntKind.u8 0, Ev.AV.int Go.IntKind.u8 0, Ev.AV.int Go.IntKind.u8 0, Ev.AV.int Go.IntKind.u8 0, Ev.AV.int Go.IntKind.u8 0, Ev.AV.int Go.IntKind.u8 0, Ev.AV.int Go.IntKind.u8 0, Ev.AV.int Go.IntKind.u8 0, Ev.AV.int Go.IntKind.u8 0, Ev.AV.int Go.IntKind.u8 0, Ev.AV.int Go.IntKind.u8 0, Ev.AV.int Go.IntKind.u8 0, Ev.AV.int Go.IntKind.u8 0, Ev.AV.int Go.IntKind.u8 0, Ev.AV.int Go.IntKind.u8 0, Ev.AV.int Go.IntKind.u8 0, Ev.AV.int Go.IntKind.u8 0, Ev.AV.int Go.IntKind.u8 0, Ev.AV.int Go.IntKind.u8 0, Ev.AV.int Go.IntKind.u8 0, Ev.AV.int Go.IntKind.u8 0, Ev.AV.int Go.IntKind.u8 0, Ev.AV.int Go.IntKind.u8 0, Ev.AV.int Go.IntKind.u8 0, Ev.AV.int Go.IntKind.u8 0, Ev.AV.int Go.IntKind.u8 0, Ev.AV.int Go.IntKind.u8 0, Ev.AV.int Go.IntKind.u8 0, Ev.AV.int Go.IntKind.u8 0, Ev.AV.int Go.IntKind.u8 0, Ev.AV.int Go.IntKind.u8 0, Ev.AV.int Go.IntKind.u8 0, Ev.AV.int Go.IntKind.u8 0, Ev.AV.int Go.IntKind.u8 0, Ev.AV.int Go.IntKind.u8 0, Ev.AV.int Go.IntKind.u8 0, Ev.AV.int Go.IntKind.u8 0, Ev.AV.int Go.IntKind.u8 0, Ev.AV.int Go.IntKind.u8 0, Ev.AV.int Go.IntKind.u8 0, Ev.AV.int Go.IntKind.u8 0, Ev.AV.int Go.IntKind.u8 0, Ev.AV.int Go.IntKind.u8 0, Ev.AV.int Go.IntKind.u8 0, Ev.AV.int Go.IntKind.u8 0, Ev.AV.int Go.IntKind.u8 0, Ev.AV.int Go.IntKind.u8 0, Ev.AV.int Go.IntKind.u8 0, Ev.AV.int Go.IntKind.u8 0, Ev.AV.int Go.IntKind.u8 0, Ev.AV.int Go.IntKind.u8 0, Ev.AV.int Go.IntKind.u8 0, Ev.AV.int Go.IntKind.u8 0, Ev.AV.int Go.IntKind.u8 0, Ev.AV.int Go.IntKind.u8 0, Ev.AV.int Go.IntKind.u8 0, Ev.AV.int Go.IntKind.u8 0, Ev.AV.int Go.IntKind.u8 0, Ev.AV.int Go.IntKind.u8 0, Ev.AV.int Go.IntKind.u8 0, Ev.AV.int Go.IntKind.u8 0, Ev.AV.int Go.IntKind.u8 0, Ev.AV.int Go.IntKind.u8 0, Ev.AV.int Go.IntKind.u8 0, Ev.AV.int Go.IntKind.u8 0, Ev.AV.int Go.IntKind.u8 0, Ev.AV.int Go.IntKind.u8 0, Ev.AV.int Go.IntKind.u8 0, Ev.AV.int Go.IntKind.u8 0, Ev.AV.int Go.IntKind.u8 0, Ev.AV.int Go.IntKind.u8 0, Ev.AV.int Go.IntKind.u8 0, Ev.AV.int Go.IntKind.u8 0, Ev.AV.int Go.IntKind.u8 0, Ev.AV.int Go.IntKind.u8 0, Ev.AV.int Go.IntKind.u8 0, Ev.AV.int Go.IntKind.u8 0, Ev.AV.int Go.IntKind.u8 0, Ev.AV.int Go.IntKind.u8 0, Ev.AV.int Go.IntKind.u8 0, Ev.AV.int Go.IntKind.u8 0, Ev.AV.int Go.IntKind.u8 0, Ev.AV.int Go.IntKind.u8 0, Ev.AV.int Go.IntKind.u8 0, Ev.AV.int Go.IntKind.u8 0, Ev.AV.int Go.IntKind.u8 0, Ev.AV.int Go.IntKind.u8 0, Ev.AV.int Go.IntKind.u8 0, Ev.AV.int Go.IntKind.u8 0, Ev.AV.int Go.IntKind.u8 0, Ev.AV.int Go.IntKind.u8 0, Ev.AV.int Go.IntKind.u8 0, Ev.AV.int Go.IntKind.u8 0, Ev.AV.int Go.IntKind.u8 0, Ev.AV.int Go.IntKind.u8 0, Ev.AV.int Go.IntKind.u8 0, Ev.AV.int Go.IntKind.u8 0, Ev.AV.int Go.IntKind.u8 0, Ev.AV.int Go.IntKind.u8 0, Ev.AV.int Go.IntKind.u8 0, Ev.AV.int Go.IntKind.u8 0, Ev.AV.int Go.IntKind.u8 0, Ev.AV.int Go.IntKind.u8 0, Ev.AV.int Go.IntKind.u8 0, Ev.AV.int Go.IntKind.u8 0, Ev.AV.int Go.IntKind.u8 0, Ev.AV.int Go.IntKind.u8 0, Ev.AV.int Go.IntKind.u8 0, Ev.AV.int Go.IntKind.u8 0, Ev.AV.int Go.IntKind.u8 0, Ev.AV.int Go.IntKind.u8 0, Ev.AV.int Go.IntKind.u8 0, Ev.AV.int Go.IntKind.u8 0, Ev.AV.int Go.IntKind.u8 0, Ev.AV.int Go.IntKind.u8 0, Ev.AV.int Go.IntKind.u8 0, Ev.AV.int Go.IntKind.u8 0, Ev.AV.int Go.IntKind.u8 0, Ev.AV.int Go.IntKind.u8 0, Ev.AV.int Go.IntKind.u8 0, Ev.AV.int Go.IntKind.u8 0, Ev.AV.int Go.IntKind.u8 0, Ev.AV.int Go.IntKind.u8 0, Ev.AV.int Go.IntKind.u8 0, Ev.AV.int Go.IntKind.u8 0, Ev.AV.int Go.IntKind.u8 0, Ev.AV.int Go.IntKind.u8 0, Ev.AV.int Go.IntKind.u8 0, Ev.AV.int Go.IntKind.u8 0, Ev.AV.int Go.IntKind.u8 0, Ev.AV.int Go.IntKind.u8 0, Ev.AV.int Go.IntKind.u8 0, Ev.AV.int Go.IntKind.u8 0, Ev.AV.int Go.IntKind.u8 0, Ev.AV.int Go.IntKind.u8 0, Ev.AV.int Go.IntKind.u8 0, Ev.AV.int Go.IntKind.u8 0, Ev.AV.int Go.IntKind.u8 0, Ev.AV.int Go.IntKind.u8 0, Ev.AV.int Go.IntKind.u8 0, Ev.AV.int Go.IntKind.u8 0, Ev.AV.int Go.IntKind.u8 0, Ev.AV.int Go.IntKind.u8 0, Ev.AV.int Go.IntKind.u8 0, Ev.AV.int Go.IntKind.u8 0, Ev.AV.int Go.IntKind.u8 0, Ev.AV.int Go.IntKind.u8 0, Ev.AV.int Go.IntKind.u8 0, Ev.AV.int Go.IntKind.u8 0, Ev.AV.int Go.IntKind.u8 0, Ev.AV.int Go.IntKind.u8 0, Ev.AV.int Go.IntKind.u8 0, Ev.AV.int Go.IntKind.u8 0, Ev.AV.int Go.IntKind.u8 0, Ev.AV.int Go.IntKind.u8 0, Ev.AV.int Go.IntKind.u8 0, Ev.AV.int Go.IntKind.u8 0, Ev.AV.int Go.IntKind.u8 0, Ev.AV.int Go.IntKind.u8 0, Ev.AV.int Go.IntKind.u8 0, Ev.AV.int Go.IntKind.u8 0, Ev.AV.int Go.IntKind.u8 0, Ev.AV.int Go.IntKind.u8 0, Ev.AV.int Go.IntKind.u8 0, Ev.AV.int Go.IntKind.u8 0, Ev.AV.int Go.IntKind.u8 0, Ev.AV.int Go.IntKind.u8 0, Ev.AV.int Go.IntKind.u8 0, Ev.AV.int Go.IntKind.u8 0, Ev.AV.int Go.IntKind.u8 0, Ev.AV.int Go.IntKind.u8 0, Ev.AV.int Go.IntKind.u8 0, Ev.AV.int Go.IntKind.u8 0, Ev.AV.int Go.IntKind.u8 0, Ev.AV.int Go.IntKind.u8 0, Ev.AV.int Go.IntKind.u8 0, Ev.AV.int Go.IntKind.u8 0, Ev.AV.int Go.IntKind.u8 0, Ev.AV.int Go.IntKind.u8 0, Ev.AV.int Go.IntKind.u8 0, Ev.AV.int Go.IntKind.u8 0, Ev.AV.int Go.IntKind.u8 0, Ev.AV.int Go.IntKind.u8 0, Ev.AV.int Go.IntKind.u8 0, Ev.AV.int Go.IntKind.u8 0, Ev.AV.int Go.IntKind.u8 0, Ev.AV.int Go.IntKind.u8 0, Ev.AV.int Go.IntKind.u8 0, Ev.AV.int Go.IntKind.u8 0, Ev.AV.int Go.IntKind.u8 0]) := by kernel_rfl
@[simp] theorem arrT123 : Ev.arrT Tryd.prog 123 = some (256, 1) := by kernel_rfl
@[simp] theorem aggT124 : Ev.aggT Tryd.prog 124 = some Bool.false := by kernel_rfl
@[simp] theorem tsz124 : Ev.tsz Tryd.prog 124 = some 1 := by kernel_rfl
@[simp] theorem tbytes124 : Ev.tbytes Tryd.prog 124 = some 8 := by kernel_rfl
@[simp] theorem zeroOf124 : Ev.zeroOf Tryd.prog 124 = some Ev.AV.fnil := by kernel_rfl
@[simp] theorem aggT125 : Ev.aggT Tryd.prog 125 = some Bool.false := by kernel_rfl
@[simp] theorem tsz125 : Ev.tsz Tryd.prog 125 = some 1 := by kernel_rfl
@[simp] theorem tbytes125 : Ev.tbytes Tryd.prog 125 = some 8 := by kernel_rfl
@[simp] theorem zeroOf125 : Ev.zeroOf Tryd.prog 125 = some Ev.AV.fnil := by kernel_rfl
@[simp] theorem aggT126 : Ev.aggT Tryd.prog 126 = some Bool.true := by kernel_rfl
@[simp] theorem tsz126 : Ev.tsz Tryd.prog 126 = some 2 := by kernel_rfl
@[simp] theorem tbytes126 : Ev.tbytes Tryd.prog 126 = some 2 := by kernel_rfl
@[simp] theorem placesOf126 : Ev.placesOf Tryd.prog 126 = some [(0, 1), (1, 1)] := by kernel_rfl
@[simp] theorem zeroOf126 : Ev.zeroOf Tryd.prog 126 = some (Ev.AV.agg [Ev.AV.int Go.IntKind.u8 0, Ev.AV.int Go.IntKind.u8 0]) := by kernel_rfl
@[simp] theorem aggT127 : Ev.aggT Tryd.prog 127 = some Bool.true := by kernel_rfl
@[simp] theorem tsz127 : Ev.tsz Tryd.prog 127 = some 2 := by kernel_rfl
@[simp] theorem tbytes127 : Ev.tbytes Tryd.prog 127 = some 2 := by kernel_rfl
@[simp] theorem placesOf127 : Ev.placesOf Tryd.prog 127 = some [(0, 1), (1, 1)] := by kernel_rfl
@[simp] theorem zeroOf127 : Ev.zeroOf Tryd.prog 127 = some (Ev.AV.agg [Ev.AV.int Go.IntKind.u8 0, Ev.AV.int Go.IntKind.u8 0]) := by kernel_rfl
@[simp] theorem aggT128 : Ev.aggT Tryd.prog 128 = some Bool.true := by kernel_rfl
@[simp] theorem tsz128 : Ev.tsz Tryd.prog 128 = some 32 := by kernel_rfl
@[simp] theorem tbytes128 : Ev.tbytes Tryd.prog 128 = some 32 := by kernel_rfl
@[simp] theorem placesOf128 : Ev.placesOf Tryd.prog 128 = some [(0, 2), (2, 2), (4, 2), (6, 2), (8, 2), (10, 2), (12, 2), (14, 2), (16, 2), (18, 2), (20, 2), (22, 2), (24, 2), (26, 2), (28, 2), (30, 2)] := by kernel_rfl
@[simp] theorem elemT128 : Ev.elemT Tryd.prog 128 = none := by kernel_rfl
@[simp] theorem zeroOf128 : Ev.zeroOf Tryd.prog 128 = some (Ev.AV.agg [Ev.AV.int Go.IntKind.u8 0, Ev.AV.int Go.IntKind.u8 0, Ev.AV.int Go.IntKind.u8 0, Ev.AV.int Go.IntKind.u8 0, Ev.AV.int Go.IntKind.u8 0, Ev.AV.int Go.IntKind.u8 0, Ev.AV.int Go.IntKind.u8 0, Ev.AV.int Go.IntKind.u8 0, Ev.AV.int Go.IntKind.u8 0, Ev.AV.int Go.IntKind.u8 0, Ev.AV.int Go.IntKind.u8 0, Ev.AV.int Go.IntKind.u8 0, Ev.AV.int Go.IntKind.u8 0, Ev.AV.int Go.IntKind.u8 0, Ev.AV.int Go.IntKind.u8 0, Ev.AV.int Go.IntKind.u8 0, Ev.AV.int Go.IntKind.u8 0, Ev.AV.int Go.IntKind.u8 0, Ev.AV.int Go.IntKind.u8 0, Ev.AV.int Go.IntKind.u8 0, Ev.AV.int Go.IntKind.u8 0, Ev.AV.int Go.IntKind.u8 0, Ev.AV.int Go.IntKind.u8 0, Ev.AV.int Go.IntKind.u8 0, Ev.AV.int Go.IntKind.u8 0, Ev.AV.int Go.IntKind.u8 0, Ev.AV.int Go.IntKind.u8 0, Ev.AV.int Go.IntKind.u8 0, Ev.AV.int Go.IntKind.u8 0, Ev.AV.int Go.IntKind.u8 0, Ev.AV.int Go.IntKind.u8 0, Ev.AV.int Go.IntKind.u8 0]) := by kernel_rfl
@[simp] theorem arrT128 : Ev.arrT Tryd.prog 128 = some (16, 2) := by kernel_rfl
@[simp] theorem aggT129 : Ev.aggT Tryd.prog 129 = some Bool.false := by kernel_rfl
@[simp] theorem tsz129 : Ev.tsz Tryd.prog 129 = some 1 := by kernel_rfl
@[simp] theorem tbytes129 : Ev.tbytes Tryd.prog 129 = some 8 := by kernel_rfl
@[simp] theorem zeroOf129 : Ev.zeroOf Tryd.prog 129 = some Ev.AV.fnil := by kernel_rfl
@[simp] theorem aggT130 : Ev.aggT Tryd.prog 130 = some Bool.false := by kernel_rfl
@[simp] theorem tsz130 : Ev.tsz Tryd.prog 130 = some 1 := by kernel_rfl
@[simp] theorem tbytes130 : Ev.tbytes Tryd.prog 130 = some 24 := by kernel_rfl
@[simp] theorem elemT130 : Ev.elemT Tryd.prog 130 = some 132 := by kernel_rfl
@[simp] theorem zeroOf130 : Ev.zeroOf Tryd.prog 130 = some (Ev.AV.sl 0 [] Ev.Tok.nil) := by kernel_rfl
@[simp] theorem aggT131 : Ev.aggT Tryd.prog 131 = some Bool.true := by kernel_rfl
@[simp] theorem tsz131 : Ev.tsz Tryd.prog 131 = some 2 := by kernel_rfl
@[simp] theorem tbytes131 : Ev.tbytes Tryd.prog 131 = some 16 := by kernel_rfl
@[simp] theorem placesOf131 : Ev.placesOf Tryd.prog 131 = some [(0, 1), (1, 1)] := by kernel_rfl
@[simp] theorem zeroOf131 : Ev.zeroOf Tryd.prog 131 = some (Ev.AV.agg [Ev.AV.int Go.IntKind.i64 0, Ev.AV.int Go.IntKind.i64 0]) := by kernel_rfl
@[simp] theorem aggT132 : Ev.aggT Tryd.prog 132 = some Bool.true := by kernel_rfl
@[simp] theorem tsz132 : Ev.tsz Tryd.prog 132 = some 2 := by kernel_rfl
@[simp] theorem tbytes132 : Ev.tbytes Tryd.prog 132 = some 16 := by kernel_rfl
@[simp] theorem placesOf132 : Ev.placesOf Tryd.prog 132 = some [(0, 1), (1, 1)] := by kernel_rfl
@[simp] theorem zeroOf132 : Ev.zeroOf Tryd.prog 132 = some (Ev.AV.agg [Ev.AV.int Go.IntKind.i64 0, Ev.AV.int Go.IntKind.i64 0]) := by kernel_rfl
@[simp] theorem aggT133 : Ev.aggT Tryd.prog 133 = some Bool.false := by kernel_rfl
@[simp] theorem tsz133 : Ev.tsz Tryd.prog 133 = some 1 := by kernel_rfl
@[simp] theorem tbytes133 : Ev.tbytes Tryd.prog 133 = some 8 := by kernel_rfl
@[simp] theorem zeroOf133 : Ev.zeroOf Tryd.prog 133 = some Ev.AV.fnil := by kernel_rfl
@[simp] theorem aggT134 : Ev.aggT Tryd.prog 134 = some Bool.false := by kernel_rfl
@[simp] theorem tsz134 : Ev.tsz Tryd.prog 134 = some 1 := by kernel_rfl
@[simp] theorem tbytes134 : Ev.tbytes Tryd.prog 134 = some 8 := by kernel_rfl
@[simp] theorem zeroOf134 : Ev.zeroOf Tryd.prog 134 = some Ev.AV.pnil := by kernel_rfl
@[simp] theorem aggT135 : Ev.aggT Tryd.prog 135 = some Bool.false := by kernel_rfl
@[simp] theorem tsz135 : Ev.tsz Tryd.prog 135 = some 1 := by kernel_rfl
@[simp] theorem tbytes135 : Ev.tbytes Tryd.prog 135 = some 24 := by kernel_rfl
@[simp] theorem elemT135 : Ev.elemT Tryd.prog 135 = some 141 := by kernel_rfl
@[simp] theorem zeroOf135 : Ev.zeroOf Tryd.prog 135 = some (Ev.AV.sl 0 [] Ev.Tok.nil) := by kernel_rfl
@[simp] theorem aggT136 : Ev.aggT Tryd.prog 136 = some Bool.false := by kernel_rfl
@[simp] theorem tsz136 : Ev.tsz Tryd.prog 136 = some 1 := by kernel_rfl
@[simp] theorem tbytes136 : Ev.tbytes Tryd.prog 136 = some 24 := by kernel_rfl
@[simp] theorem elemT136 : Ev.elemT Tryd.prog 136 = some 144 := by kernel_rfl
@[simp] theorem zeroOf136 : Ev.zeroOf Tryd.prog 136 = some (Ev.AV.sl 0 [] Ev.Tok.nil) := by kernel_rfl
@[simp] theorem aggT137 : Ev.aggT Tryd.prog 137 = some Bool.true := by kernel_rfl
@[simp] theorem tsz137 : Ev.tsz Tryd.prog 137 = some 3 := by kernel_rfl
@[simp] theorem tbytes137 : Ev.tbytes Tryd.prog 137 = some 56 := by kernel_rfl
@[simp] theorem placesOf137 : Ev.placesOf Tryd.prog 137 = some [(0, 1), (1, 1), (2, 1)] := by kernel_rfl
@[simp] theorem zeroOf137 : Ev.zeroOf Tryd.prog 137 = some (Ev.AV.agg [Ev.AV.sl 0 [] Ev.Tok.nil, Ev.AV.sl 0 [] Ev.Tok.nil, Ev.AV.int Go.IntKind.i64 0]) := by kernel_rfl
@[simp] theorem aggT138 : Ev.aggT Tryd.prog 138 = some Bool.true := by kernel_rfl
@[simp] theorem tsz138 : Ev.tsz Tryd.prog 138 = some 3 := by kernel_rfl
@[simp] theorem tbytes138 : Ev.tbytes Tryd.prog 138 = some 56 := by kernel_rfl
@[simp] theorem placesOf138 : Ev.placesOf Tryd.prog 138 = some [(0, 1), (1, 1), (2, 1)] := by kernel_rfl
@[simp] theorem zeroOf138 : Ev.zeroOf Tryd.prog 138 = some (Ev.AV.agg [Ev.AV.sl 0 [] Ev.Tok.nil, Ev.AV.sl 0 [] Ev.Tok.nil, Ev.AV.int Go.IntKind.i64 0]) := by kernel_rfl
@[simp] theorem aggT139 : Ev.aggT Tryd.prog 139 = some Bool.false := by kernel_rfl
@[simp] theorem tsz139 : Ev.tsz Tryd.prog 139 = some 1 := by kernel_rfl
@[simp] theorem tbytes139 : Ev.tbytes Tryd.prog 139 = some 2 := by kernel_rfl
@[simp] theorem zeroOf139 : Ev.zeroOf Tryd.prog 139 = some (Ev.AV.int Go.IntKind.u16 0) := by kernel_rfl
@[simp] theorem aggT140 : Ev.aggT Tryd.prog 140 = some Bool.true := by kernel_rfl
@[simp] theorem tsz140 : Ev.tsz Tryd.prog 140 = some 3 := by kernel_rfl
@[simp] theorem tbytes140 : Ev.tbytes Tryd.prog 140 = some 6 := by kernel_rfl
@[simp] theorem placesOf140 : Ev.placesOf Tryd.prog 140 = some [(0, 1), (1, 1), (2, 1)] := by kernel_rfl
@[simp] theorem zeroOf140 : Ev.zeroOf Tryd.prog 140 = some (Ev.AV.agg [Ev.AV.int Go.IntKind.u16 0, Ev.AV.int Go.IntKind.u16 0, Ev.AV.int Go.IntKind.u16 0]) := by kernel_rfl
@[simp] theorem aggT141 : Ev.aggT Tryd.prog 141 = some Bool.true := by kernel_rfl
@[simp] theorem tsz141 : Ev.tsz Tryd.prog 141 = some 3 := by kernel_rfl
@[simp] theorem tbytes141 : Ev.tbytes Tryd.prog 141 = some 6 := by kernel_rfl
@[simp] theorem placesOf141 : Ev.placesOf Tryd.prog 141 = some [(0, 1), (1, 1), (2, 1)] := by kernel_rfl
@[simp] theorem zeroOf141 : Ev.zeroOf Tryd.prog 141 = some (Ev.AV.agg [Ev.AV.int Go.IntKind.u16 0, Ev.AV.int Go.IntKind.u16 0, Ev.AV.int Go.IntKind.u16 0]) := by kernel_rfl
@[simp] theorem aggT142 : Ev.aggT Tryd.prog 142 = some Bool.false := by kernel_rfl
@[simp] theorem tsz142 : Ev.tsz Tryd.prog 142 = some 1 := by kernel_rfl
@[simp] theorem tbytes142 : Ev.tbytes Tryd.prog 142 = some 8 := by kernel_rfl
@[simp] theorem zeroOf142 : Ev.zeroOf Tryd.prog 142 = some Ev.AV.fnil := by kernel_rfl
@[simp] theorem aggT143 : Ev.aggT Tryd.prog 143 = some Bool.true := by kernel_rfl
@[simp] theorem tsz143 : Ev.tsz Tryd.prog 143 = some 3 := by kernel_rfl
@[simp] theorem tbytes143 : Ev.tbytes Tryd.prog 143 = some 12 := by kernel_rfl
@[simp] theorem placesOf143 : Ev.placesOf Tryd.prog 143 = some [(0, 1), (1, 1), (2, 1)] := by kernel_rfl
@[simp] theorem zeroOf143 : Ev.zeroOf Tryd.prog 143 = some (Ev.AV.agg [Ev.AV.int Go.IntKind.u32 0, Ev.AV.int Go.IntKind.u32 0, Ev.AV.int Go.IntKind.u32 0]) := by kernel_rfl
@[simp] theorem aggT144 : Ev.aggT Tryd.prog 144 = some Bool.true := by kernel_rfl
@[simp] theorem tsz144 : Ev.tsz Tryd.prog 144 = some 3 := by kernel_rfl
@[simp] theorem tbytes144 : Ev.tbytes Tryd.prog 144 = some 12 := by kernel_rfl
@[simp] theorem placesOf144 : Ev.placesOf Tryd.prog 144 = some [(0, 1), (1, 1), (2, 1)] := by kernel_rfl
@[simp] theorem zeroOf144 : Ev.zeroOf Tryd.prog 144 = some (Ev.AV.agg [Ev.AV.int Go.IntKind.u32 0, Ev.AV.int Go.IntKind.u32 0, Ev.AV.int Go.IntKind.u32 0]) := by kernel_rfl
@[simp] theorem aggT145 : Ev.aggT Tryd.prog 145 = some Bool.false := by kernel_rfl
@[simp] theorem tsz145 : Ev.tsz Tryd.prog 145 = some 1 := by kernel_rfl
@[simp] theorem tbytes145 : Ev.tbytes Tryd.prog 145 = some 8 := by kernel_rfl
@[simp] theorem zeroOf145 : Ev.zeroOf Tryd.prog 145 = some Ev.AV.fnil := by kernel_rfl
@[simp] theorem aggT146 : Ev.aggT Tryd.prog 146 = some Bool.false := by kernel_rfl
@[simp] theorem tsz146 : Ev.tsz Tryd.prog 146 = some 1 := by kernel_rfl
@[simp] theorem tbytes146 : Ev.tbytes Tryd.prog 146 = some 8 := by kernel_rfl
@[simp] theorem zeroOf146 : Ev.zeroOf Tryd.prog 146 = some Ev.AV.pnil := by kernel_rfl
@[simp] theorem aggT147 : Ev.aggT Tryd.prog 147 = some Bool.false := by kernel_rfl
@[simp] theorem tsz147 : Ev.tsz Tryd.prog 147 = some 1 := by kernel_rfl
@[simp] theorem tbytes147 : Ev.tbytes Tryd.prog 147 = some 8 := by kernel_rfl
@[simp] theorem zeroOf147 : Ev.zeroOf Tryd.prog 147 = some Ev.AV.pnil := by kernel_rfl
@[simp] theorem aggT148 : Ev.aggT Tryd.prog 148 = some Bool.false := by kernel_rfl
@[simp] theorem tsz148 : Ev.tsz Tryd.prog 148 = some 1 := by kernel_rfl
@[simp] theorem tbytes148 : Ev.tbytes Tryd.prog 148 = some 8 := by kernel_rfl
@[simp] theorem zeroOf148 : Ev.zeroOf Tryd.prog 148 = some Ev.AV.fnil := by kernel_rfl
@[simp] theorem aggT149 : Ev.aggT Tryd.prog 149 = some Bool.true := by kernel_rfl
@[simp] theorem tsz149 : Ev.tsz Tryd.prog 149 = some 4 := by kernel_rfl
@[simp] theorem tbytes149 : Ev.tbytes Tryd.prog 149 = some 40 := by kernel_rfl
@[simp] theorem placesOf149 : Ev.placesOf Tryd.prog 149 = some [(0, 1), (1, 1), (2, 1), (3, 1)] := by kernel_rfl
@[simp] theorem zeroOf149 : Ev.zeroOf Tryd.prog 149 = some (Ev.AV.agg [Ev.AV.pnil, Ev.AV.pnil, Ev.AV.pnil, Ev.AV.str []]) := by kernel_rfl
@[simp] theorem aggT150 : Ev.aggT Tryd.prog 150 = some Bool.true := by kernel_rfl
@[simp] theorem tsz150 : Ev.tsz Tryd.prog 150 = some 4 := by kernel_rfl
@[simp] theorem tbytes150 : Ev.tbytes Tryd.prog 150 = some 40 := by kernel_rfl
@[simp] theorem placesOf150 : Ev.placesOf Tryd.prog 150 = some [(0, 1), (1, 1), (2, 1), (3, 1)] := by kernel_rfl
@[simp] theorem zeroOf150 : Ev.zeroOf Tryd.prog 150 = some (Ev.AV.agg [Ev.AV.pnil, Ev.AV.pnil, Ev.AV.pnil, Ev.AV.str []]) := by kernel_rfl
@[simp] theorem aggT151 : Ev.aggT Tryd.prog 151 = some Bool.true := by kernel_rfl
@[simp] theorem tsz151 : Ev.tsz Tryd.prog 151 = some 0 := by kernel_rfl
@[simp] theorem tbytes151 : Ev.tbytes Tryd.prog 151 = some 0 := by kernel_rfl
@[simp] theorem placesOf151 : Ev.placesOf Tryd.prog 151 = some [] := by kernel_rfl
@[simp] theorem elemT151 : Ev.elemT Tryd.prog 151 = none := by kernel_rfl
@[simp] theorem zeroOf151 : Ev.zeroOf Tryd.prog 151 = some (Ev.AV.agg []) := by kernel_rfl
@[simp] theorem arrT151 : Ev.arrT Tryd.prog 151 = some (0, 1) := by kernel_rfl
@[simp] theorem aggT152 : Ev.aggT Tryd.prog 152 = some Bool.true := by kernel_rfl
@[simp] theorem tsz152 : Ev.tsz Tryd.prog 152 = some 0 := by kernel_rfl
@[simp] theorem tbytes152 : Ev.tbytes Tryd.prog 152 = some 0 := by kernel_rfl
@[simp] theorem placesOf152 : Ev.placesOf Tryd.prog 152 = some [(0, 0)] := by kernel_rfl
@[simp] theorem zeroOf152 : Ev.zeroOf Tryd.prog 152 = some (Ev.AV.agg []) := by kernel_rfl
@[simp] theorem aggT153 : Ev.aggT Tryd.prog 153 = some Bool.true := by kernel_rfl
@[simp] theorem tsz153 : Ev.tsz Tryd.prog 153 = some 0 := by kernel_rfl
@[simp] theorem tbytes153 : Ev.tbytes Tryd.prog 153 = some 0 := by kernel_rfl
@[simp] theorem placesOf153 : Ev.placesOf Tryd.prog 153 = some [(0, 0)] := by kernel_rfl
@[simp] theorem zeroOf153 : Ev.zeroOf Tryd.prog 153 = some (Ev.AV.agg []) := by kernel_rfl
@[simp] theorem aggT154 : Ev.aggT Tryd.prog 154 = some Bool.false := by kernel_rfl
@[simp] theorem tsz154 : Ev.tsz Tryd.prog 154 = some 1 := by kernel_rfl
@[simp] theorem tbytes154 : Ev.tbytes Tryd.prog 154 = some 1 := by kernel_rfl
@[simp] theorem zeroOf154 : Ev.zeroOf Tryd.prog 154 = some (Ev.AV.int Go.IntKind.u8 0) := by kernel_rfl
@[simp] theorem aggT155 : Ev.aggT Tryd.prog 155 = some Bool.false := by kernel_rfl
@[simp] theorem tsz155 : Ev.tsz Tryd.prog 155 = some 1 := by kernel_rfl
@[simp] theorem tbytes155 : Ev.tbytes Tryd.prog 155 = some 1 := by kernel_rfl
@[simp] theorem zeroOf155 : Ev.zeroOf Tryd.prog 155 = some (Ev.AV.int Go.IntKind.u8 0) := by kernel_rfl
@[simp] theorem aggT156 : Ev.aggT Tryd.prog 156 = some Bool.false := by kernel_rfl
@[simp] theorem tsz156 : Ev.tsz Tryd.prog 156 = some 1 := by kernel_rfl
@[simp] theorem tbytes156 : Ev.tbytes Tryd.prog 156 = some 8 := by kernel_rfl
@[simp] theorem zeroOf156 : Ev.zeroOf Tryd.prog 156 = some Ev.AV.fnil := by kernel_rfl
@[simp] theorem aggT157 : Ev.aggT Tryd.prog 157 = some Bool.false := by kernel_rfl
@[simp] theorem tsz157 : Ev.tsz Tryd.prog 157 = some 1 := by kernel_rfl
@[simp] theorem tbytes157 : Ev.tbytes Tryd.prog 157 = some 4 := by kernel_rfl
@[simp] theorem zeroOf157 : Ev.zeroOf Tryd.prog 157 = some (Ev.AV.int Go.IntKind.i32 0) := by kernel_rfl
@[simp] theorem aggT158 : Ev.aggT Tryd.prog 158 = some Bool.false := by kernel_rfl
@[simp] theorem tsz158 : Ev.tsz Tryd.prog 158 = some 1 := by kernel_rfl
@[simp] theorem tbytes158 : Ev.tbytes Tryd.prog 158 = some 4 := by kernel_rfl
@[simp] theorem zeroOf158 : Ev.zeroOf Tryd.prog 158 = some (Ev.AV.int Go.IntKind.i32 0) := by kernel_rfl
@[simp] theorem aggT159 : Ev.aggT Tryd.prog 159 = some Bool.true := by kernel_rfl
@[simp] theorem tsz159 : Ev.tsz Tryd.prog 159 = some 11 := by kernel_rfl
@[simp] theorem tbytes159 : Ev.tbytes Tryd.prog 159 = some 48 := by kernel_rfl
@[simp] theorem placesOf159 : Ev.placesOf Tryd.prog 159 = some [(0, 1), (1, 1), (2, 1), (3, 1), (4, 1), (5, 1), (6, 1), (7, 1), (8, 1), (9, 1), (10, 1)] := by kernel_rfl
@[simp] theorem zeroOf159 : Ev.zeroOf Tryd.prog 159 = some (Ev.AV.agg [Ev.AV.int Go.IntKind.u64 0, Ev.AV.int Go.IntKind.u64 0, Ev.AV.int Go.IntKind.u32 0, Ev.AV.int Go.IntKind.u8 0, Ev.AV.int Go.IntKind.u8 0, Ev.AV.int Go.IntKind.u8 0, Ev.AV.int Go.IntKind.u8 0, Ev.AV.fnil, Ev.AV.pnil, Ev.AV.int Go.IntKind.i32 0, Ev.AV.int Go.IntKind.i32 0]) := by kernel_rfl
@[simp] theorem aggT160 : Ev.aggT Tryd.prog 160 = some Bool.true := by kernel_rfl
@[simp] theorem tsz160 : Ev.tsz Tryd.prog 160 = some 11 := by kernel_rfl
@[simp] theorem tbytes160 : Ev.tbytes Tryd.prog 160 = some 48 := by kernel_rfl
@[simp] theorem placesOf160 : Ev.placesOf Tryd.prog 160 = some [(0, 1), (1, 1), (2, 1), (3, 1), (4, 1), (5, 1), (6, 1), (7, 1), (8, 1), (9, 1), (10, 1)] := by kernel_rfl
@[simp] theorem zeroOf160 : Ev.zeroOf Tryd.prog 160 = some (Ev.AV.agg [Ev.AV.int Go.IntKind.u64 0, Ev.AV.int Go.IntKind.u64 0, Ev.AV.int Go.IntKind.u32 0, Ev.AV.int Go.IntKind.u8 0, Ev.AV.int Go.IntKind.u8 0, Ev.AV.int Go.IntKind.u8 0, Ev.AV.int Go.IntKind.u8 0, Ev.AV.fnil, Ev.AV.pnil, Ev.AV.int Go.IntKind.i32 0, Ev.AV.int Go.IntKind.i32 0]) := by kernel_rfl
@[simp] theorem fieldT7_0 : Ev.fieldT Tryd.prog 7 0 = some (0, 2) := by kernel_rfl
@[simp] theorem fieldT7_1 : Ev.fieldT Tryd.prog 7 1 = some (1, 3) := by kernel_rfl
@[simp] theorem fieldT7_2 : Ev.fieldT Tryd.prog 7 2 = some (2, 4) := by kernel_rfl
@[simp] theorem fieldT7_3 : Ev.fieldT Tryd.prog 7 3 = some (3, 6) := by kernel_rfl
@[simp] theorem fieldT8_0 : Ev.fieldT Tryd.prog 8 0 = some (0, 2) := by kernel_rfl
@[simp] theorem fieldT8_1 : Ev.fieldT Tryd.prog 8 1 = some (1, 3) := by kernel_rfl
@[simp] theorem fieldT8_2 : Ev.fieldT Tryd.prog 8 2 = some (2, 4) := by kernel_rfl
@[simp] theorem fieldT8_3 : Ev.fieldT Tryd.prog 8 3 = some (3, 6) := by kernel_rfl
@[simp] theorem fieldT13_0 : Ev.fieldT Tryd.prog 13 0 = some (0, 9) := by kernel_rfl
@[simp] theorem fieldT13_1 : Ev.fieldT Tryd.prog 13 1 = some (1, 12) := by kernel_rfl
@[simp] theorem fieldT14_0 : Ev.fieldT Tryd.prog 14 0 = some (0, 9) := by kernel_rfl
@[simp] theorem fieldT14_1 : Ev.fieldT Tryd.prog 14 1 = some (1, 12) := by kernel_rfl
@[simp] theorem fieldT18_0 : Ev.fieldT Tryd.prog 18 0 = some (0, 17) := by kernel_rfl
@[simp] theorem fieldT19_0 : Ev.fieldT Tryd.prog 19 0 = some (0, 17) := by kernel_rfl
@[simp] theorem fieldT32_0 : Ev.fieldT Tryd.prog 32 0 = some (0, 3) := by kernel_rfl
@[simp] theorem fieldT32_1 : Ev.fieldT Tryd.prog 32 1 = some (1, 3) := by kernel_rfl
@[simp] theorem fieldT33_0 : Ev.fieldT Tryd.prog 33 0 = some (0, 3) := by kernel_rfl
@[simp] theorem fieldT33_1 : Ev.fieldT Tryd.prog 33 1 = some (1, 3) := by kernel_rfl
@[simp] theorem fieldT38_0 : Ev.fieldT Tryd.prog 38 0 = some (0, 3) := by kernel_rfl
@[simp] theorem fieldT38_1 : Ev.fieldT Tryd.prog 38 1 = some (1, 9) := by kernel_rfl
@[simp] theorem fieldT38_2 : Ev.fieldT Tryd.prog 38 2 = some (2, 3) := by kernel_rfl
@[simp] theorem fieldT38_3 : Ev.fieldT Tryd.prog 38 3 = some (3, 3) := by kernel_rfl
@[simp] theorem fieldT39_0 : Ev.fieldT Tryd.prog 39 0 = some (0, 3) := by kernel_rfl
@[simp] theorem fieldT39_1 : Ev.fieldT Tryd.prog 39 1 = some (1, 9) := by kernel_rfl
@[simp] theorem fieldT39_2 : Ev.fieldT Tryd.prog 39 2 = some (2, 3) := by kernel_rfl
@[simp] theorem fieldT39_3 : Ev.fieldT Tryd.prog 39 3 = some (3, 3) := by kernel_rfl
@[simp] theorem fieldT49_0 : Ev.fieldT Tryd.prog 49 0 = some (0, 33) := by kernel_rfl
@[simp] theorem fieldT49_1 : Ev.fieldT Tryd.prog 49 1 = some (2, 33) := by kernel_rfl
@[simp] theorem fieldT50_0 : Ev.fieldT Tryd.prog 50 0 = some (0, 33) := by kernel_rfl
@[simp] theorem fieldT50_1 : Ev.fieldT Tryd.prog 50 1 = some (2, 33) := by kernel_rfl
@[simp] theorem fieldT59_0 : Ev.fieldT Tryd.prog 59 0 = some (0, 22) := by kernel_rfl
@[simp] theorem fieldT59_1 : Ev.fieldT Tryd.prog 59 1 = some (1, 33) := by kernel_rfl
@[simp] theorem fieldT59_2 : Ev.fieldT Tryd.prog 59 2 = some (3, 31) := by kernel_rfl
@[simp] theorem fieldT59_3 : Ev.fieldT Tryd.prog 59 3 = some (4, 42) := by kernel_rfl
@[simp] theorem fieldT60_0 : Ev.fieldT Tryd.prog 60 0 = some (0, 22) := by kernel_rfl
@[simp] theorem fieldT60_1 : Ev.fieldT Tryd.prog 60 1 = some (1, 33) := by kernel_rfl
@[simp] theorem fieldT60_2 : Ev.fieldT Tryd.prog 60 2 = some (3, 31) := by kernel_rfl
@[simp] theorem fieldT60_3 : Ev.fieldT Tryd.prog 60 3 = some (4, 42) := by kernel_rfl
@[simp] theorem fieldT67_0 : Ev.fieldT Tryd.prog 67 0 = some (0, 9) := by kernel_rfl
@[simp] theorem fieldT67_1 : Ev.fieldT Tryd.prog 67 1 = some (1, 9) := by kernel_rfl
@[simp] theorem fieldT68_0 : Ev.fieldT Tryd.prog 68 0 = some (0, 9) := by kernel_rfl
@[simp] theorem fieldT68_1 : Ev.fieldT Tryd.prog 68 1 = some (1, 9) := by kernel_rfl
@[simp] theorem fieldT81_0 : Ev.fieldT Tryd.prog 81 0 = some (0, 79) := by kernel_rfl
@[simp] theorem fieldT81_1 : Ev.fieldT Tryd.prog 81 1 = some (1, 80) := by kernel_rfl
@[simp] theorem fieldT82_0 : Ev.fieldT Tryd.prog 82 0 = some (0, 79) := by kernel_rfl
@[simp] theorem fieldT82_1 : Ev.fieldT Tryd.prog 82 1 = some (1, 80) := by kernel_rfl
@[simp] theorem fieldT94_0 : Ev.fieldT Tryd.prog 94 0 = some (0, 3) := by kernel_rfl
@[simp] theorem fieldT94_1 : Ev.fieldT Tryd.prog 94 1 = some (1, 3) := by kernel_rfl
@[simp] theorem fieldT94_2 : Ev.fieldT Tryd.prog 94 2 = some (2, 25) := by kernel_rfl
@[simp] theorem fieldT95_0 : Ev.fieldT Tryd.prog 95 0 = some (0, 3) := by kernel_rfl
@[simp] theorem fieldT95_1 : Ev.fieldT Tryd.prog 95 1 = some (1, 3) := by kernel_rfl
@[simp] theorem fieldT95_2 : Ev.fieldT Tryd.prog 95 2 = some (2, 25) := by kernel_rfl
@[simp] theorem fieldT126_0 : Ev.fieldT Tryd.prog 126 0 = some (0, 5) := by kernel_rfl
@[simp] theorem fieldT126_1 : Ev.fieldT Tryd.prog 126 1 = some (1, 5) := by kernel_rfl
@[simp] theorem fieldT127_0 : Ev.fieldT Tryd.prog 127 0 = some (0, 5) := by kernel_rfl
@[simp] theorem fieldT127_1 : Ev.fieldT Tryd.prog 127 1 = some (1, 5) := by kernel_rfl
@[simp] theorem fieldT131_0 : Ev.fieldT Tryd.prog 131 0 = some (0, 3) := by kernel_rfl
@[simp] theorem fieldT131_1 : Ev.fieldT Tryd.prog 131 1 = some (1, 3) := by kernel_rfl
@[simp] theorem fieldT132_0 : Ev.fieldT Tryd.prog 132 0 = some (0, 3) := by kernel_rfl
@[simp] theorem fieldT132_1 : Ev.fieldT Tryd.prog 132 1 = some (1, 3) := by kernel_rfl
@[simp] theorem fieldT137_0 : Ev.fieldT Tryd.prog 137 0 = some (0, 135) := by kernel_rfl
@[simp] theorem fieldT137_1 : Ev.fieldT Tryd.prog 137 1 = some (1, 136) := by kernel_rfl
@[simp] theorem fieldT137_2 : Ev.fieldT Tryd.prog 137 2 = some (2, 3) := by kernel_rfl
@[simp] theorem fieldT138_0 : Ev.fieldT Tryd.prog 138 0 = some (0, 135) := by kernel_rfl
@[simp] theorem fieldT138_1 : Ev.fieldT Tryd.prog 138 1 = some (1, 136) := by kernel_rfl
@[simp] theorem fieldT138_2 : Ev.fieldT Tryd.prog 138 2 = some (2, 3) := by kernel_rfl
@[simp] theorem fieldT140_0 : Ev.fieldT Tryd.prog 140 0 = some (0, 139) := by kernel_rfl
@[simp] theorem fieldT140_1 : Ev.fieldT Tryd.prog 140 1 = some (1, 139) := by kernel_rfl
@[simp] theorem fieldT140_2 : Ev.fieldT Tryd.prog 140 2 = some (2, 139) := by kernel_rfl
@[simp] theorem fieldT141_0 : Ev.fieldT Tryd.prog 141 0 = some (0, 139) := by kernel_rfl
@[simp] theorem fieldT141_1 : Ev.fieldT Tryd.prog 141 1 = some (1, 139) := by kernel_rfl
@[simp] theorem fieldT141_2 : Ev.fieldT Tryd.prog 141 2 = some (2, 139) := by kernel_rfl
@[simp] theorem fieldT143_0 : Ev.fieldT Tryd.prog 143 0 = some (0, 97) := by kernel_rfl
@[simp] theorem fieldT143_1 : Ev.fieldT Tryd.prog 143 1 = some (1, 97) := by kernel_rfl
@[simp] theorem fieldT143_2 : Ev.fieldT Tryd.prog 143 2 = some (2, 97) := by kernel_rfl
@[simp] theorem fieldT144_0 : Ev.fieldT Tryd.prog 144 0 = some (0, 97) := by kernel_rfl
@[simp] theorem fieldT144_1 : Ev.fieldT Tryd.prog 144 1 = some (1, 97) := by kernel_rfl
@[simp] theorem fieldT144_2 : Ev.fieldT Tryd.prog 144 2 = some (2, 97) := by kernel_rfl
@[simp] theorem fieldT149_0 : Ev.fieldT Tryd.prog 149 0 = some (0, 17) := by kernel_rfl
@[simp] theorem fieldT149_1 : Ev.fieldT Tryd.prog 149 1 = some (1, 17) := by kernel_rfl
@[simp] theorem fieldT149_2 : Ev.fieldT Tryd.prog 149 2 = some (2, 17) := by kernel_rfl
@[simp] theorem fieldT149_3 : Ev.fieldT Tryd.prog 149 3 = some (3, 9) := by kernel_rfl
@[simp] theorem fieldT150_0 : Ev.fieldT Tryd.prog 150 0 = some (0, 17) := by kernel_rfl
@[simp] theorem fieldT150_1 : Ev.fieldT Tryd.prog 150 1 = some (1, 17) := by kernel_rfl
@[simp] theorem fieldT150_2 : Ev.fieldT Tryd.prog 150 2 = some (2, 17) := by kernel_rfl
@[simp] theorem fieldT150_3 : Ev.fieldT Tryd.prog 150 3 = some (3, 9) := by kernel_rfl
@[simp] theorem fieldT159_0 : Ev.fieldT Tryd.prog 159 0 = some (0, 12) := by kernel_rfl
@[simp] theorem fieldT159_1 : Ev.fieldT Tryd.prog 159 1 = some (1, 12) := by kernel_rfl
@[simp] theorem fieldT159_2 : Ev.fieldT Tryd.prog 159 2 = some (2, 97) := by kernel_rfl
@[simp] theorem fieldT159_3 : Ev.fieldT Tryd.prog 159 3 = some (3, 154) := by kernel_rfl
@[simp] theorem fieldT159_4 : Ev.fieldT Tryd.prog 159 4 = some (4, 5) := by kernel_rfl
@[simp] theorem fieldT159_5 : Ev.fieldT Tryd.prog 159 5 = some (5, 5) := by kernel_rfl
@[simp] theorem fieldT159_6 : Ev.fieldT Tryd.prog 159 6 = some (6, 155) := by kernel_rfl
@[simp] theorem fieldT159_7 : Ev.fieldT Tryd.prog 159 7 = some (7, 156) := by kernel_rfl
@[simp] theorem fieldT159_8 : Ev.fieldT Tryd.prog 159 8 = some (8, 103) := by kernel_rfl
@[simp] theorem fieldT159_9 : Ev.fieldT Tryd.prog 159 9 = some (9, 157) := by kernel_rfl
@[simp] theorem fieldT159_10 : Ev.fieldT Tryd.prog 159 10 = some (10, 158) := by kernel_rfl
@[simp] theorem fieldT160_0 : Ev.fieldT Tryd.prog 160 0 = some (0, 12) := by kernel_rfl
@[simp] theorem fieldT160_1 : Ev.fieldT Tryd.prog 160 1 = some (1, 12) := by kernel_rfl
@[simp] theorem fieldT160_2 : Ev.fieldT Tryd.prog 160 2 = some (2, 97) := by kernel_rfl
@[simp] theorem fieldT160_3 : Ev.fieldT Tryd.prog 160 3 = some (3, 154) := by kernel_rfl
@[simp] theorem fieldT160_4 : Ev.fieldT Tryd.prog 160 4 = some (4, 5) := by kernel_rfl
@[simp] theorem fieldT160_5 : Ev.fieldT Tryd.prog 160 5 = some (5, 5) := by kernel_rfl
@[simp] theorem fieldT160_6 : Ev.fieldT Tryd.prog 160 6 = some (6, 155) := by kernel_rfl
@[simp] theorem fieldT160_7 : Ev.fieldT Tryd.prog 160 7 = some (7, 156) := by kernel_rfl
@[simp] theorem fieldT160_8 : Ev.fieldT Tryd.prog 160 8 = some (8, 103) := by kernel_rfl
@[simp] theorem fieldT160_9 : Ev.fieldT Tryd.prog 160 9 = some (9, 157) := by kernel_rfl
@[simp] theorem fieldT160_10 : Ev.fieldT Tryd.prog 160 10 = some (10, 158) := by kernel_rfl
theorem mixed : Tryd.prog.follows .mixedOrders = true := by kernel_rfl

end Go.Proofs.YtlmmgblghgmgeaaDoor
