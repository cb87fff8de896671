/- The evaluator's tables of this seat, by program. -/
import Derived.Test.YtlmmgblghgmgeaaGreatDoorProg
import Derived.Test.YtlmmgblghgmgeaaGreatDoorEv4
import Derived.KernelRfl
namespace Go.Proofs.YtlmmgblghgmgeaaGreatDoor
open Go Ev

@[simp] theorem aggT0 : Ev.aggT Tryz.prog 0 = some Bool.false := by kernel_rfl
@[simp] theorem tsz0 : Ev.tsz Tryz.prog 0 = some 1 := by kernel_rfl
@[simp] theorem tbytes0 : Ev.tbytes Tryz.prog 0 = some 0 := by kernel_rfl
@[simp] theorem zeroOf0 : Ev.zeroOf Tryz.prog 0 = some Ev.AV.undef := by kernel_rfl
@[simp] theorem aggT1 : Ev.aggT Tryz.prog 1 = some Bool.false := by kernel_rfl
@[simp] theorem tsz1 : Ev.tsz Tryz.prog 1 = some 1 := by kernel_rfl
@[simp] theorem tbytes1 : Ev.tbytes Tryz.prog 1 = some 8 := by kernel_rfl
@[simp] theorem zeroOf1 : Ev.zeroOf Tryz.prog 1 = some Ev.AV.fnil := by kernel_rfl
@[simp] theorem aggT2 : Ev.aggT Tryz.prog 2 = some Bool.false := by kernel_rfl
@[simp] theorem tsz2 : Ev.tsz Tryz.prog 2 = some 1 := by kernel_rfl
@[simp] theorem tbytes2 : Ev.tbytes Tryz.prog 2 = some 8 := by kernel_rfl
@[simp] theorem zeroOf2 : Ev.zeroOf Tryz.prog 2 = some (Ev.AV.int Go.IntKind.i64 0) := by kernel_rfl
@[simp] theorem aggT3 : Ev.aggT Tryz.prog 3 = some Bool.false := by kernel_rfl
@[simp] theorem tsz3 : Ev.tsz Tryz.prog 3 = some 1 := by kernel_rfl
@[simp] theorem tbytes3 : Ev.tbytes Tryz.prog 3 = some 8 := by kernel_rfl
@[simp] theorem zeroOf3 : Ev.zeroOf Tryz.prog 3 = some (Ev.AV.int Go.IntKind.i64 0) := by kernel_rfl
@[simp] theorem aggT4 : Ev.aggT Tryz.prog 4 = some Bool.false := by kernel_rfl
@[simp] theorem tsz4 : Ev.tsz Tryz.prog 4 = some 1 := by kernel_rfl
@[simp] theorem tbytes4 : Ev.tbytes Tryz.prog 4 = some 1 := by kernel_rfl
@[simp] theorem zeroOf4 : Ev.zeroOf Tryz.prog 4 = some (Ev.AV.bool Bool.false) := by kernel_rfl
@[simp] theorem aggT5 : Ev.aggT Tryz.prog 5 = some Bool.false := by kernel_rfl
@[simp] theorem tsz5 : Ev.tsz Tryz.prog 5 = some 1 := by kernel_rfl
@[simp] theorem tbytes5 : Ev.tbytes Tryz.prog 5 = some 1 := by kernel_rfl
@[simp] theorem zeroOf5 : Ev.zeroOf Tryz.prog 5 = some (Ev.AV.int Go.IntKind.u8 0) := by kernel_rfl
@[simp] theorem aggT6 : Ev.aggT Tryz.prog 6 = some Bool.false := by kernel_rfl
@[simp] theorem tsz6 : Ev.tsz Tryz.prog 6 = some 1 := by kernel_rfl
@[simp] theorem tbytes6 : Ev.tbytes Tryz.prog 6 = some 1 := by kernel_rfl
@[simp] theorem zeroOf6 : Ev.zeroOf Tryz.prog 6 = some (Ev.AV.int Go.IntKind.u8 0) := by kernel_rfl
@[simp] theorem aggT7 : Ev.aggT Tryz.prog 7 = some Bool.true := by kernel_rfl
@[simp] theorem tsz7 : Ev.tsz Tryz.prog 7 = some 4 := by kernel_rfl
@[simp] theorem tbytes7 : Ev.tbytes Tryz.prog 7 = some 24 := by kernel_rfl
@[simp] theorem placesOf7 : Ev.placesOf Tryz.prog 7 = some [(0, 1), (1, 1), (2, 1), (3, 1)] := by kernel_rfl
@[simp] theorem zeroOf7 : Ev.zeroOf Tryz.prog 7 = some (Ev.AV.agg [Ev.AV.int Go.IntKind.i64 0, Ev.AV.int Go.IntKind.i64 0, Ev.AV.bool Bool.false, Ev.AV.int Go.IntKind.u8 0]) := by kernel_rfl
@[simp] theorem aggT8 : Ev.aggT Tryz.prog 8 = some Bool.true := by kernel_rfl
@[simp] theorem tsz8 : Ev.tsz Tryz.prog 8 = some 4 := by kernel_rfl
@[simp] theorem tbytes8 : Ev.tbytes Tryz.prog 8 = some 24 := by kernel_rfl
@[simp] theorem placesOf8 : Ev.placesOf Tryz.prog 8 = some [(0, 1), (1, 1), (2, 1), (3, 1)] := by kernel_rfl
@[simp] theorem zeroOf8 : Ev.zeroOf Tryz.prog 8 = some (Ev.AV.agg [Ev.AV.int Go.IntKind.i64 0, Ev.AV.int Go.IntKind.i64 0, Ev.AV.bool Bool.false, Ev.AV.int Go.IntKind.u8 0]) := by kernel_rfl
@[simp] theorem aggT9 : Ev.aggT Tryz.prog 9 = some Bool.false := by kernel_rfl
@[simp] theorem tsz9 : Ev.tsz Tryz.prog 9 = some 1 := by kernel_rfl
@[simp] theorem tbytes9 : Ev.tbytes Tryz.prog 9 = some 16 := by kernel_rfl
@[simp] theorem zeroOf9 : Ev.zeroOf Tryz.prog 9 = some (Ev.AV.str []) := by kernel_rfl
@[simp] theorem aggT10 : Ev.aggT Tryz.prog 10 = some Bool.false := by kernel_rfl
@[simp] theorem tsz10 : Ev.tsz Tryz.prog 10 = some 1 := by kernel_rfl
@[simp] theorem tbytes10 : Ev.tbytes Tryz.prog 10 = some 16 := by kernel_rfl
@[simp] theorem zeroOf10 : Ev.zeroOf Tryz.prog 10 = some (Ev.AV.str []) := by kernel_rfl
@[simp] theorem aggT11 : Ev.aggT Tryz.prog 11 = some Bool.false := by kernel_rfl
@[simp] theorem tsz11 : Ev.tsz Tryz.prog 11 = some 1 := by kernel_rfl
@[simp] theorem tbytes11 : Ev.tbytes Tryz.prog 11 = some 16 := by kernel_rfl
@[simp] theorem zeroOf11 : Ev.zeroOf Tryz.prog 11 = some (Ev.AV.str []) := by kernel_rfl
@[simp] theorem aggT12 : Ev.aggT Tryz.prog 12 = some Bool.false := by kernel_rfl
@[simp] theorem tsz12 : Ev.tsz Tryz.prog 12 = some 1 := by kernel_rfl
@[simp] theorem tbytes12 : Ev.tbytes Tryz.prog 12 = some 8 := by kernel_rfl
@[simp] theorem zeroOf12 : Ev.zeroOf Tryz.prog 12 = some (Ev.AV.int Go.IntKind.u64 0) := by kernel_rfl
@[simp] theorem aggT13 : Ev.aggT Tryz.prog 13 = some Bool.true := by kernel_rfl
@[simp] theorem tsz13 : Ev.tsz Tryz.prog 13 = some 2 := by kernel_rfl
@[simp] theorem tbytes13 : Ev.tbytes Tryz.prog 13 = some 24 := by kernel_rfl
@[simp] theorem placesOf13 : Ev.placesOf Tryz.prog 13 = some [(0, 1), (1, 1)] := by kernel_rfl
@[simp] theorem zeroOf13 : Ev.zeroOf Tryz.prog 13 = some (Ev.AV.agg [Ev.AV.str [], Ev.AV.int Go.IntKind.u64 0]) := by kernel_rfl
@[simp] theorem aggT14 : Ev.aggT Tryz.prog 14 = some Bool.true := by kernel_rfl
@[simp] theorem tsz14 : Ev.tsz Tryz.prog 14 = some 2 := by kernel_rfl
@[simp] theorem tbytes14 : Ev.tbytes Tryz.prog 14 = some 24 := by kernel_rfl
@[simp] theorem placesOf14 : Ev.placesOf Tryz.prog 14 = some [(0, 1), (1, 1)] := by kernel_rfl
@[simp] theorem zeroOf14 : Ev.zeroOf Tryz.prog 14 = some (Ev.AV.agg [Ev.AV.str [], Ev.AV.int Go.IntKind.u64 0]) := by kernel_rfl
@[simp] theorem aggT15 : Ev.aggT Tryz.prog 15 = some Bool.false := by kernel_rfl
@[simp] theorem tsz15 : Ev.tsz Tryz.prog 15 = some 1 := by kernel_rfl
@[simp] theorem tbytes15 : Ev.tbytes Tryz.prog 15 = some 8 := by kernel_rfl
@[simp] theorem zeroOf15 : Ev.zeroOf Tryz.prog 15 = some Ev.AV.pnil := by kernel_rfl
@[simp] theorem aggT16 : Ev.aggT Tryz.prog 16 = some Bool.false := by kernel_rfl
@[simp] theorem tsz16 : Ev.tsz Tryz.prog 16 = some 1 := by kernel_rfl
@[simp] theorem tbytes16 : Ev.tbytes Tryz.prog 16 = some 8 := by kernel_rfl
@[simp] theorem zeroOf16 : Ev.zeroOf Tryz.prog 16 = some Ev.AV.pnil := by kernel_rfl
@[simp] theorem aggT17 : Ev.aggT Tryz.prog 17 = some Bool.false := by kernel_rfl
@[simp] theorem tsz17 : Ev.tsz Tryz.prog 17 = some 1 := by kernel_rfl
@[simp] theorem tbytes17 : Ev.tbytes Tryz.prog 17 = some 8 := by kernel_rfl
@[simp] theorem zeroOf17 : Ev.zeroOf Tryz.prog 17 = some Ev.AV.pnil := by kernel_rfl
@[simp] theorem aggT18 : Ev.aggT Tryz.prog 18 = some Bool.true := by kernel_rfl
@[simp] theorem tsz18 : Ev.tsz Tryz.prog 18 = some 1 := by kernel_rfl
@[simp] theorem tbytes18 : Ev.tbytes Tryz.prog 18 = some 8 := by kernel_rfl
@[simp] theorem placesOf18 : Ev.placesOf Tryz.prog 18 = some [(0, 1)] := by kernel_rfl
@[simp] theorem zeroOf18 : Ev.zeroOf Tryz.prog 18 = some (Ev.AV.agg [Ev.AV.pnil]) := by kernel_rfl
@[simp] theorem aggT19 : Ev.aggT Tryz.prog 19 = some Bool.true := by kernel_rfl
@[simp] theorem tsz19 : Ev.tsz Tryz.prog 19 = some 1 := by kernel_rfl
@[simp] theorem tbytes19 : Ev.tbytes Tryz.prog 19 = some 8 := by kernel_rfl
@[simp] theorem placesOf19 : Ev.placesOf Tryz.prog 19 = some [(0, 1)] := by kernel_rfl
@[simp] theorem zeroOf19 : Ev.zeroOf Tryz.prog 19 = some (Ev.AV.agg [Ev.AV.pnil]) := by kernel_rfl
@[simp] theorem aggT20 : Ev.aggT Tryz.prog 20 = some Bool.false := by kernel_rfl
@[simp] theorem tsz20 : Ev.tsz Tryz.prog 20 = some 1 := by kernel_rfl
@[simp] theorem tbytes20 : Ev.tbytes Tryz.prog 20 = some 16 := by kernel_rfl
@[simp] theorem zeroOf20 : Ev.zeroOf Tryz.prog 20 = some Ev.AV.undef := by kernel_rfl
@[simp] theorem aggT21 : Ev.aggT Tryz.prog 21 = some Bool.false := by kernel_rfl
@[simp] theorem tsz21 : Ev.tsz Tryz.prog 21 = some 1 := by kernel_rfl
@[simp] theorem tbytes21 : Ev.tbytes Tryz.prog 21 = some 4 := by kernel_rfl
@[simp] theorem zeroOf21 : Ev.zeroOf Tryz.prog 21 = some (Ev.AV.int Go.IntKind.i32 0) := by kernel_rfl
@[simp] theorem aggT22 : Ev.aggT Tryz.prog 22 = some Bool.true := by kernel_rfl
@[simp] theorem tsz22 : Ev.tsz Tryz.prog 22 = some 4 := by kernel_rfl
@[simp] theorem tbytes22 : Ev.tbytes Tryz.prog 22 = some 40 := by kernel_rfl
@[simp] theorem placesOf22 : Ev.placesOf Tryz.prog 22 = some [(0, 1), (1, 1), (2, 1), (3, 1)] := by kernel_rfl
@[simp] theorem zeroOf22 : Ev.zeroOf Tryz.prog 22 = some (Ev.AV.agg [Ev.AV.int Go.IntKind.i64 0, Ev.AV.str [], Ev.AV.int Go.IntKind.i64 0, Ev.AV.int Go.IntKind.i64 0]) := by kernel_rfl
@[simp] theorem aggT23 : Ev.aggT Tryz.prog 23 = some Bool.true := by kernel_rfl
@[simp] theorem tsz23 : Ev.tsz Tryz.prog 23 = some 4 := by kernel_rfl
@[simp] theorem tbytes23 : Ev.tbytes Tryz.prog 23 = some 40 := by kernel_rfl
@[simp] theorem placesOf23 : Ev.placesOf Tryz.prog 23 = some [(0, 1), (1, 1), (2, 1), (3, 1)] := by kernel_rfl
@[simp] theorem zeroOf23 : Ev.zeroOf Tryz.prog 23 = some (Ev.AV.agg [Ev.AV.int Go.IntKind.i64 0, Ev.AV.str [], Ev.AV.int Go.IntKind.i64 0, Ev.AV.int Go.IntKind.i64 0]) := by kernel_rfl
@[simp] theorem aggT24 : Ev.aggT Tryz.prog 24 = some Bool.false := by kernel_rfl
@[simp] theorem tsz24 : Ev.tsz Tryz.prog 24 = some 1 := by kernel_rfl
@[simp] theorem tbytes24 : Ev.tbytes Tryz.prog 24 = some 8 := by kernel_rfl
@[simp] theorem zeroOf24 : Ev.zeroOf Tryz.prog 24 = some Ev.AV.fnil := by kernel_rfl
@[simp] theorem aggT25 : Ev.aggT Tryz.prog 25 = some Bool.false := by kernel_rfl
@[simp] theorem tsz25 : Ev.tsz Tryz.prog 25 = some 1 := by kernel_rfl
@[simp] theorem tbytes25 : Ev.tbytes Tryz.prog 25 = some 8 := by kernel_rfl
@[simp] theorem zeroOf25 : Ev.zeroOf Tryz.prog 25 = some (Ev.AV.int Go.IntKind.i64 0) := by kernel_rfl
@[simp] theorem aggT26 : Ev.aggT Tryz.prog 26 = some Bool.false := by kernel_rfl
@[simp] theorem tsz26 : Ev.tsz Tryz.prog 26 = some 1 := by kernel_rfl
@[simp] theorem tbytes26 : Ev.tbytes Tryz.prog 26 = some 0 := by kernel_rfl
@[simp] theorem zeroOf26 : Ev.zeroOf Tryz.prog 26 = some Ev.AV.undef := by kernel_rfl
@[simp] theorem aggT27 : Ev.aggT Tryz.prog 27 = some Bool.false := by kernel_rfl
@[simp] theorem tsz27 : Ev.tsz Tryz.prog 27 = some 1 := by kernel_rfl
@[simp] theorem tbytes27 : Ev.tbytes Tryz.prog 27 = some 8 := by kernel_rfl
@[simp] theorem zeroOf27 : Ev.zeroOf Tryz.prog 27 = some Ev.AV.fnil := by kernel_rfl
@[simp] theorem aggT28 : Ev.aggT Tryz.prog 28 = some Bool.false := by kernel_rfl
@[simp] theorem tsz28 : Ev.tsz Tryz.prog 28 = some 1 := by kernel_rfl
@[simp] theorem tbytes28 : Ev.tbytes Tryz.prog 28 = some 8 := by kernel_rfl
@[simp] theorem zeroOf28 : Ev.zeroOf Tryz.prog 28 = some Ev.AV.fnil := by kernel_rfl
@[simp] theorem aggT29 : Ev.aggT Tryz.prog 29 = some Bool.false := by kernel_rfl
@[simp] theorem tsz29 : Ev.tsz Tryz.prog 29 = some 1 := by kernel_rfl
@[simp] theorem tbytes29 : Ev.tbytes Tryz.prog 29 = some 8 := by kernel_rfl
@[simp] theorem zeroOf29 : Ev.zeroOf Tryz.prog 29 = some Ev.AV.fnil := by kernel_rfl
@[simp] theorem aggT30 : Ev.aggT Tryz.prog 30 = some Bool.false := by kernel_rfl
@[simp] theorem tsz30 : Ev.tsz Tryz.prog 30 = some 1 := by kernel_rfl
@[simp] theorem tbytes30 : Ev.tbytes Tryz.prog 30 = some 8 := by kernel_rfl
@[simp] theorem zeroOf30 : Ev.zeroOf Tryz.prog 30 = some Ev.AV.fnil := by kernel_rfl
@[simp] theorem aggT31 : Ev.aggT Tryz.prog 31 = some Bool.false := by kernel_rfl
@[simp] theorem tsz31 : Ev.tsz Tryz.prog 31 = some 1 := by kernel_rfl
@[simp] theorem tbytes31 : Ev.tbytes Tryz.prog 31 = some 24 := by kernel_rfl
@[simp] theorem elemT31 : Ev.elemT Tryz.prog 31 = some 9 := by kernel_rfl
@[simp] theorem zeroOf31 : Ev.zeroOf Tryz.prog 31 = some (Ev.AV.sl 0 [] Ev.Tok.nil) := by kernel_rfl
@[simp] theorem aggT32 : Ev.aggT Tryz.prog 32 = some Bool.false := by kernel_rfl
@[simp] theorem tsz32 : Ev.tsz Tryz.prog 32 = some 1 := by kernel_rfl
@[simp] theorem tbytes32 : Ev.tbytes Tryz.prog 32 = some 8 := by kernel_rfl
@[simp] theorem zeroOf32 : Ev.zeroOf Tryz.prog 32 = some Ev.AV.fnil := by kernel_rfl
@[simp] theorem aggT33 : Ev.aggT Tryz.prog 33 = some Bool.false := by kernel_rfl
@[simp] theorem tsz33 : Ev.tsz Tryz.prog 33 = some 1 := by kernel_rfl
@[simp] theorem tbytes33 : Ev.tbytes Tryz.prog 33 = some 24 := by kernel_rfl
@[simp] theorem elemT33 : Ev.elemT Tryz.prog 33 = some 23 := by kernel_rfl
@[simp] theorem zeroOf33 : Ev.zeroOf Tryz.prog 33 = some (Ev.AV.sl 0 [] Ev.Tok.nil) := by kernel_rfl
@[simp] theorem aggT34 : Ev.aggT Tryz.prog 34 = some Bool.true := by kernel_rfl
@[simp] theorem tsz34 : Ev.tsz Tryz.prog 34 = some 2 := by kernel_rfl
@[simp] theorem tbytes34 : Ev.tbytes Tryz.prog 34 = some 16 := by kernel_rfl
@[simp] theorem placesOf34 : Ev.placesOf Tryz.prog 34 = some [(0, 1), (1, 1)] := by kernel_rfl
@[simp] theorem zeroOf34 : Ev.zeroOf Tryz.prog 34 = some (Ev.AV.agg [Ev.AV.int Go.IntKind.i64 0, Ev.AV.int Go.IntKind.i64 0]) := by kernel_rfl
@[simp] theorem aggT35 : Ev.aggT Tryz.prog 35 = some Bool.true := by kernel_rfl
@[simp] theorem tsz35 : Ev.tsz Tryz.prog 35 = some 2 := by kernel_rfl
@[simp] theorem tbytes35 : Ev.tbytes Tryz.prog 35 = some 16 := by kernel_rfl
@[simp] theorem placesOf35 : Ev.placesOf Tryz.prog 35 = some [(0, 1), (1, 1)] := by kernel_rfl
@[simp] theorem zeroOf35 : Ev.zeroOf Tryz.prog 35 = some (Ev.AV.agg [Ev.AV.int Go.IntKind.i64 0, Ev.AV.int Go.IntKind.i64 0]) := by kernel_rfl
@[simp] theorem aggT36 : Ev.aggT Tryz.prog 36 = some Bool.false := by kernel_rfl
@[simp] theorem tsz36 : Ev.tsz Tryz.prog 36 = some 1 := by kernel_rfl
@[simp] theorem tbytes36 : Ev.tbytes Tryz.prog 36 = some 0 := by kernel_rfl
@[simp] theorem zeroOf36 : Ev.zeroOf Tryz.prog 36 = some Ev.AV.undef := by kernel_rfl
@[simp] theorem aggT37 : Ev.aggT Tryz.prog 37 = some Bool.false := by kernel_rfl
@[simp] theorem tsz37 : Ev.tsz Tryz.prog 37 = some 1 := by kernel_rfl
@[simp] theorem tbytes37 : Ev.tbytes Tryz.prog 37 = some 8 := by kernel_rfl
@[simp] theorem zeroOf37 : Ev.zeroOf Tryz.prog 37 = some Ev.AV.fnil := by kernel_rfl
@[simp] theorem aggT38 : Ev.aggT Tryz.prog 38 = some Bool.false := by kernel_rfl
@[simp] theorem tsz38 : Ev.tsz Tryz.prog 38 = some 1 := by kernel_rfl
@[simp] theorem tbytes38 : Ev.tbytes Tryz.prog 38 = some 8 := by kernel_rfl
@[simp] theorem zeroOf38 : Ev.zeroOf Tryz.prog 38 = some Ev.AV.fnil := by kernel_rfl
@[simp] theorem aggT39 : Ev.aggT Tryz.prog 39 = some Bool.false := by kernel_rfl
@[simp] theorem tsz39 : Ev.tsz Tryz.prog 39 = some 1 := by kernel_rfl
@[simp] theorem tbytes39 : Ev.tbytes Tryz.prog 39 = some 24 := by kernel_rfl
@[simp] theorem elemT39 : Ev.elemT Tryz.prog 39 = some 49 := by kernel_rfl
@[simp] theorem zeroOf39 : Ev.zeroOf Tryz.prog 39 = some (Ev.AV.sl 0 [] Ev.Tok.nil) := by kernel_rfl
@[simp] theorem aggT40 : Ev.aggT Tryz.prog 40 = some Bool.false := by kernel_rfl
@[simp] theorem tsz40 : Ev.tsz Tryz.prog 40 = some 1 := by kernel_rfl
@[simp] theorem tbytes40 : Ev.tbytes Tryz.prog 40 = some 0 := by kernel_rfl
@[simp] theorem zeroOf40 : Ev.zeroOf Tryz.prog 40 = some Ev.AV.undef := by kernel_rfl
@[simp] theorem aggT41 : Ev.aggT Tryz.prog 41 = some Bool.false := by kernel_rfl
@[simp] theorem tsz41 : Ev.tsz Tryz.prog 41 = some 1 := by kernel_rfl
@[simp] theorem tbytes41 : Ev.tbytes Tryz.prog 41 = some 8 := by kernel_rfl
@[simp] theorem zeroOf41 : Ev.zeroOf Tryz.prog 41 = some Ev.AV.fnil := by kernel_rfl
@[simp] theorem aggT42 : Ev.aggT Tryz.prog 42 = some Bool.false := by kernel_rfl
@[simp] theorem tsz42 : Ev.tsz Tryz.prog 42 = some 1 := by kernel_rfl
@[simp] theorem tbytes42 : Ev.tbytes Tryz.prog 42 = some 0 := by kernel_rfl
@[simp] theorem zeroOf42 : Ev.zeroOf Tryz.prog 42 = some Ev.AV.undef := by kernel_rfl
@[simp] theorem aggT43 : Ev.aggT Tryz.prog 43 = some Bool.false := by kernel_rfl
@[simp] theorem tsz43 : Ev.tsz Tryz.prog 43 = some 1 := by kernel_rfl
@[simp] theorem tbytes43 : Ev.tbytes Tryz.prog 43 = some 8 := by kernel_rfl
@[simp] theorem zeroOf43 : Ev.zeroOf Tryz.prog 43 = some Ev.AV.fnil := by kernel_rfl
@[simp] theorem aggT44 : Ev.aggT Tryz.prog 44 = some Bool.true := by kernel_rfl
@[simp] theorem tsz44 : Ev.tsz Tryz.prog 44 = some 5 := by kernel_rfl
@[simp] theorem tbytes44 : Ev.tbytes Tryz.prog 44 = some 72 := by kernel_rfl
@[simp] theorem placesOf44 : Ev.placesOf Tryz.prog 44 = some [(0, 1), (1, 1), (2, 2), (4, 1)] := by kernel_rfl
@[simp] theorem zeroOf44 : Ev.zeroOf Tryz.prog 44 = some (Ev.AV.agg [Ev.AV.sl 0 [] Ev.Tok.nil, Ev.AV.sl 0 [] Ev.Tok.nil, Ev.AV.int Go.IntKind.i64 0, Ev.AV.int Go.IntKind.i64 0, Ev.AV.int Go.IntKind.i64 0]) := by kernel_rfl
@[simp] theorem aggT45 : Ev.aggT Tryz.prog 45 = some Bool.true := by kernel_rfl
@[simp] theorem tsz45 : Ev.tsz Tryz.prog 45 = some 5 := by kernel_rfl
@[simp] theorem tbytes45 : Ev.tbytes Tryz.prog 45 = some 72 := by kernel_rfl
@[simp] theorem placesOf45 : Ev.placesOf Tryz.prog 45 = some [(0, 1), (1, 1), (2, 2), (4, 1)] := by kernel_rfl
@[simp] theorem zeroOf45 : Ev.zeroOf Tryz.prog 45 = some (Ev.AV.agg [Ev.AV.sl 0 [] Ev.Tok.nil, Ev.AV.sl 0 [] Ev.Tok.nil, Ev.AV.int Go.IntKind.i64 0, Ev.AV.int Go.IntKind.i64 0, Ev.AV.int Go.IntKind.i64 0]) := by kernel_rfl
@[simp] theorem aggT46 : Ev.aggT Tryz.prog 46 = some Bool.false := by kernel_rfl
@[simp] theorem tsz46 : Ev.tsz Tryz.prog 46 = some 1 := by kernel_rfl
@[simp] theorem tbytes46 : Ev.tbytes Tryz.prog 46 = some 8 := by kernel_rfl
@[simp] theorem zeroOf46 : Ev.zeroOf Tryz.prog 46 = some Ev.AV.fnil := by kernel_rfl
@[simp] theorem aggT47 : Ev.aggT Tryz.prog 47 = some Bool.false := by kernel_rfl
@[simp] theorem tsz47 : Ev.tsz Tryz.prog 47 = some 1 := by kernel_rfl
@[simp] theorem tbytes47 : Ev.tbytes Tryz.prog 47 = some 8 := by kernel_rfl
@[simp] theorem zeroOf47 : Ev.zeroOf Tryz.prog 47 = some Ev.AV.fnil := by kernel_rfl
@[simp] theorem aggT48 : Ev.aggT Tryz.prog 48 = some Bool.true := by kernel_rfl
@[simp] theorem tsz48 : Ev.tsz Tryz.prog 48 = some 4 := by kernel_rfl
@[simp] theorem tbytes48 : Ev.tbytes Tryz.prog 48 = some 32 := by kernel_rfl
@[simp] theorem placesOf48 : Ev.placesOf Tryz.prog 48 = some [(0, 2), (2, 2)] := by kernel_rfl
@[simp] theorem zeroOf48 : Ev.zeroOf Tryz.prog 48 = some (Ev.AV.agg [Ev.AV.int Go.IntKind.i64 0, Ev.AV.int Go.IntKind.i64 0, Ev.AV.int Go.IntKind.i64 0, Ev.AV.int Go.IntKind.i64 0]) := by kernel_rfl
@[simp] theorem aggT49 : Ev.aggT Tryz.prog 49 = some Bool.true := by kernel_rfl
@[simp] theorem tsz49 : Ev.tsz Tryz.prog 49 = some 4 := by kernel_rfl
@[simp] theorem tbytes49 : Ev.tbytes Tryz.prog 49 = some 32 := by kernel_rfl
@[simp] theorem placesOf49 : Ev.placesOf Tryz.prog 49 = some [(0, 2), (2, 2)] := by kernel_rfl
@[simp] theorem zeroOf49 : Ev.zeroOf Tryz.prog 49 = some (Ev.AV.agg [Ev.AV.int Go.IntKind.i64 0, Ev.AV.int Go.IntKind.i64 0, Ev.AV.int Go.IntKind.i64 0, Ev.AV.int Go.IntKind.i64 0]) := by kernel_rfl
@[simp] theorem aggT50 : Ev.aggT Tryz.prog 50 = some Bool.false := by kernel_rfl
@[simp] theorem tsz50 : Ev.tsz Tryz.prog 50 = some 1 := by kernel_rfl
@[simp] theorem tbytes50 : Ev.tbytes Tryz.prog 50 = some 8 := by kernel_rfl
@[simp] theorem zeroOf50 : Ev.zeroOf Tryz.prog 50 = some Ev.AV.fnil := by kernel_rfl
@[simp] theorem aggT51 : Ev.aggT Tryz.prog 51 = some Bool.false := by kernel_rfl
@[simp] theorem tsz51 : Ev.tsz Tryz.prog 51 = some 1 := by kernel_rfl
@[simp] theorem tbytes51 : Ev.tbytes Tryz.prog 51 = some 8 := by kernel_rfl
@[simp] theorem zeroOf51 : Ev.zeroOf Tryz.prog 51 = some Ev.AV.fnil := by kernel_rfl
@[simp] theorem aggT52 : Ev.aggT Tryz.prog 52 = some Bool.false := by kernel_rfl
@[simp] theorem tsz52 : Ev.tsz Tryz.prog 52 = some 1 := by kernel_rfl
@[simp] theorem tbytes52 : Ev.tbytes Tryz.prog 52 = some 8 := by kernel_rfl
@[simp] theorem zeroOf52 : Ev.zeroOf Tryz.prog 52 = some Ev.AV.fnil := by kernel_rfl
@[simp] theorem aggT53 : Ev.aggT Tryz.prog 53 = some Bool.false := by kernel_rfl
@[simp] theorem tsz53 : Ev.tsz Tryz.prog 53 = some 1 := by kernel_rfl
@[simp] theorem tbytes53 : Ev.tbytes Tryz.prog 53 = some 0 := by kernel_rfl
@[simp] theorem zeroOf53 : Ev.zeroOf Tryz.prog 53 = some Ev.AV.undef := by kernel_rfl
@[simp] theorem aggT54 : Ev.aggT Tryz.prog 54 = some Bool.false := by kernel_rfl
@[simp] theorem tsz54 : Ev.tsz Tryz.prog 54 = some 1 := by kernel_rfl
@[simp] theorem tbytes54 : Ev.tbytes Tryz.prog 54 = some 8 := by kernel_rfl
@[simp] theorem zeroOf54 : Ev.zeroOf Tryz.prog 54 = some Ev.AV.fnil := by kernel_rfl
@[simp] theorem aggT55 : Ev.aggT Tryz.prog 55 = some Bool.false := by kernel_rfl
@[simp] theorem tsz55 : Ev.tsz Tryz.prog 55 = some 1 := by kernel_rfl
@[simp] theorem tbytes55 : Ev.tbytes Tryz.prog 55 = some 0 := by kernel_rfl
@[simp] theorem zeroOf55 : Ev.zeroOf Tryz.prog 55 = some Ev.AV.undef := by kernel_rfl
@[simp] theorem aggT56 : Ev.aggT Tryz.prog 56 = some Bool.false := by kernel_rfl
@[simp] theorem tsz56 : Ev.tsz Tryz.prog 56 = some 1 := by kernel_rfl
@[simp] theorem tbytes56 : Ev.tbytes Tryz.prog 56 = some 8 := by kernel_rfl
@[simp] theorem zeroOf56 : Ev.zeroOf Tryz.prog 56 = some Ev.AV.fnil := by kernel_rfl
@[simp] theorem aggT57 : Ev.aggT Tryz.prog 57 = some Bool.false := by kernel_rfl
@[simp] theorem tsz57 : Ev.tsz Tryz.prog 57 = some 1 := by kernel_rfl
@[simp] theorem tbytes57 : Ev.tbytes Tryz.prog 57 = some 0 := by kernel_rfl
@[simp] theorem zeroOf57 : Ev.zeroOf Tryz.prog 57 = some Ev.AV.undef := by kernel_rfl
@[simp] theorem aggT58 : Ev.aggT Tryz.prog 58 = some Bool.false := by kernel_rfl
@[simp] theorem tsz58 : Ev.tsz Tryz.prog 58 = some 1 := by kernel_rfl
@[simp] theorem tbytes58 : Ev.tbytes Tryz.prog 58 = some 8 := by kernel_rfl
@[simp] theorem zeroOf58 : Ev.zeroOf Tryz.prog 58 = some Ev.AV.fnil := by kernel_rfl
@[simp] theorem aggT59 : Ev.aggT Tryz.prog 59 = some Bool.false := by kernel_rfl
@[simp] theorem tsz59 : Ev.tsz Tryz.prog 59 = some 1 := by kernel_rfl
@[simp] theorem tbytes59 : Ev.tbytes Tryz.prog 59 = some 0 := by kernel_rfl
@[simp] theorem zeroOf59 : Ev.zeroOf Tryz.prog 59 = some Ev.AV.undef := by kernel_rfl
@[simp] theorem aggT60 : Ev.aggT Tryz.prog 60 = some Bool.false := by kernel_rfl
@[simp] theorem tsz60 : Ev.tsz Tryz.prog 60 = some 1 := by kernel_rfl
@[simp] theorem tbytes60 : Ev.tbytes Tryz.prog 60 = some 8 := by kernel_rfl
@[simp] theorem zeroOf60 : Ev.zeroOf Tryz.prog 60 = some Ev.AV.fnil := by kernel_rfl
@[simp] theorem aggT61 : Ev.aggT Tryz.prog 61 = some Bool.false := by kernel_rfl
@[simp] theorem tsz61 : Ev.tsz Tryz.prog 61 = some 1 := by kernel_rfl
@[simp] theorem tbytes61 : Ev.tbytes Tryz.prog 61 = some 8 := by kernel_rfl
@[simp] theorem zeroOf61 : Ev.zeroOf Tryz.prog 61 = some Ev.AV.fnil := by kernel_rfl
@[simp] theorem aggT62 : Ev.aggT Tryz.prog 62 = some Bool.false := by kernel_rfl
@[simp] theorem tsz62 : Ev.tsz Tryz.prog 62 = some 1 := by kernel_rfl
@[simp] theorem tbytes62 : Ev.tbytes Tryz.prog 62 = some 8 := by kernel_rfl
@[simp] theorem zeroOf62 : Ev.zeroOf Tryz.prog 62 = some Ev.AV.fnil := by kernel_rfl
@[simp] theorem aggT63 : Ev.aggT Tryz.prog 63 = some Bool.false := by kernel_rfl
@[simp] theorem tsz63 : Ev.tsz Tryz.prog 63 = some 1 := by kernel_rfl
@[simp] theorem tbytes63 : Ev.tbytes Tryz.prog 63 = some 0 := by kernel_rfl
@[simp] theorem zeroOf63 : Ev.zeroOf Tryz.prog 63 = some Ev.AV.undef := by kernel_rfl
@[simp] theorem aggT64 : Ev.aggT Tryz.prog 64 = some Bool.false := by kernel_rfl
@[simp] theorem tsz64 : Ev.tsz Tryz.prog 64 = some 1 := by kernel_rfl
@[simp] theorem tbytes64 : Ev.tbytes Tryz.prog 64 = some 8 := by kernel_rfl
@[simp] theorem zeroOf64 : Ev.zeroOf Tryz.prog 64 = some Ev.AV.fnil := by kernel_rfl
@[simp] theorem aggT65 : Ev.aggT Tryz.prog 65 = some Bool.false := by kernel_rfl
@[simp] theorem tsz65 : Ev.tsz Tryz.prog 65 = some 1 := by kernel_rfl
@[simp] theorem tbytes65 : Ev.tbytes Tryz.prog 65 = some 8 := by kernel_rfl
@[simp] theorem zeroOf65 : Ev.zeroOf Tryz.prog 65 = some Ev.AV.fnil := by kernel_rfl
@[simp] theorem aggT66 : Ev.aggT Tryz.prog 66 = some Bool.false := by kernel_rfl
@[simp] theorem tsz66 : Ev.tsz Tryz.prog 66 = some 1 := by kernel_rfl
@[simp] theorem tbytes66 : Ev.tbytes Tryz.prog 66 = some 8 := by kernel_rfl
@[simp] theorem zeroOf66 : Ev.zeroOf Tryz.prog 66 = some Ev.AV.fnil := by kernel_rfl
@[simp] theorem aggT67 : Ev.aggT Tryz.prog 67 = some Bool.false := by kernel_rfl
@[simp] theorem tsz67 : Ev.tsz Tryz.prog 67 = some 1 := by kernel_rfl
@[simp] theorem tbytes67 : Ev.tbytes Tryz.prog 67 = some 8 := by kernel_rfl
@[simp] theorem zeroOf67 : Ev.zeroOf Tryz.prog 67 = some Ev.AV.fnil := by kernel_rfl
@[simp] theorem aggT68 : Ev.aggT Tryz.prog 68 = some Bool.false := by kernel_rfl
@[simp] theorem tsz68 : Ev.tsz Tryz.prog 68 = some 1 := by kernel_rfl
@[simp] theorem tbytes68 : Ev.tbytes Tryz.prog 68 = some 8 := by kernel_rfl
@[simp] theorem zeroOf68 : Ev.zeroOf Tryz.prog 68 = some Ev.AV.fnil := by kernel_rfl
@[simp] theorem aggT69 : Ev.aggT Tryz.prog 69 = some Bool.false := by kernel_rfl
@[simp] theorem tsz69 : Ev.tsz Tryz.prog 69 = some 1 := by kernel_rfl
@[simp] theorem tbytes69 : Ev.tbytes Tryz.prog 69 = some 8 := by kernel_rfl
@[simp] theorem zeroOf69 : Ev.zeroOf Tryz.prog 69 = some Ev.AV.fnil := by kernel_rfl
@[simp] theorem aggT70 : Ev.aggT Tryz.prog 70 = some Bool.false := by kernel_rfl
@[simp] theorem tsz70 : Ev.tsz Tryz.prog 70 = some 1 := by kernel_rfl
@[simp] theorem tbytes70 : Ev.tbytes Tryz.prog 70 = some 8 := by kernel_rfl
@[simp] theorem zeroOf70 : Ev.zeroOf Tryz.prog 70 = some Ev.AV.fnil := by kernel_rfl
@[simp] theorem aggT71 : Ev.aggT Tryz.prog 71 = some Bool.false := by kernel_rfl
@[simp] theorem tsz71 : Ev.tsz Tryz.prog 71 = some 1 := by kernel_rfl
@[simp] theorem tbytes71 : Ev.tbytes Tryz.prog 71 = some 8 := by kernel_rfl
@[simp] theorem zeroOf71 : Ev.zeroOf Tryz.prog 71 = some Ev.AV.pnil := by kernel_rfl
@[simp] theorem aggT72 : Ev.aggT Tryz.prog 72 = some Bool.false := by kernel_rfl
@[simp] theorem tsz72 : Ev.tsz Tryz.prog 72 = some 1 := by kernel_rfl
@[simp] theorem tbytes72 : Ev.tbytes Tryz.prog 72 = some 0 := by kernel_rfl
@[simp] theorem zeroOf72 : Ev.zeroOf Tryz.prog 72 = some Ev.AV.undef := by kernel_rfl
@[simp] theorem aggT73 : Ev.aggT Tryz.prog 73 = some Bool.false := by kernel_rfl
@[simp] theorem tsz73 : Ev.tsz Tryz.prog 73 = some 1 := by kernel_rfl
@[simp] theorem tbytes73 : Ev.tbytes Tryz.prog 73 = some 8 := by kernel_rfl
@[simp] theorem zeroOf73 : Ev.zeroOf Tryz.prog 73 = some Ev.AV.fnil := by kernel_rfl
@[simp] theorem aggT74 : Ev.aggT Tryz.prog 74 = some Bool.true := by kernel_rfl
@[simp] theorem tsz74 : Ev.tsz Tryz.prog 74 = some 5 := by kernel_rfl
@[simp] theorem tbytes74 : Ev.tbytes Tryz.prog 74 = some 88 := by kernel_rfl
@[simp] theorem placesOf74 : Ev.placesOf Tryz.prog 74 = some [(0, 1), (1, 2), (3, 1), (4, 1)] := by kernel_rfl
@[simp] theorem zeroOf74 : Ev.zeroOf Tryz.prog 74 = some (Ev.AV.agg [Ev.AV.sl 0 [] Ev.Tok.nil, Ev.AV.int Go.IntKind.i64 0, Ev.AV.int Go.IntKind.i64 0, Ev.AV.sl 0 [] Ev.Tok.nil, Ev.AV.sl 0 [] Ev.Tok.nil]) := by kernel_rfl
@[simp] theorem aggT75 : Ev.aggT Tryz.prog 75 = some Bool.true := by kernel_rfl
@[simp] theorem tsz75 : Ev.tsz Tryz.prog 75 = some 5 := by kernel_rfl
@[simp] theorem tbytes75 : Ev.tbytes Tryz.prog 75 = some 88 := by kernel_rfl
@[simp] theorem placesOf75 : Ev.placesOf Tryz.prog 75 = some [(0, 1), (1, 2), (3, 1), (4, 1)] := by kernel_rfl
@[simp] theorem zeroOf75 : Ev.zeroOf Tryz.prog 75 = some (Ev.AV.agg [Ev.AV.sl 0 [] Ev.Tok.nil, Ev.AV.int Go.IntKind.i64 0, Ev.AV.int Go.IntKind.i64 0, Ev.AV.sl 0 [] Ev.Tok.nil, Ev.AV.sl 0 [] Ev.Tok.nil]) := by kernel_rfl
@[simp] theorem aggT76 : Ev.aggT Tryz.prog 76 = some Bool.false := by kernel_rfl
@[simp] theorem tsz76 : Ev.tsz Tryz.prog 76 = some 1 := by kernel_rfl
@[simp] theorem tbytes76 : Ev.tbytes Tryz.prog 76 = some 8 := by kernel_rfl
@[simp] theorem zeroOf76 : Ev.zeroOf Tryz.prog 76 = some Ev.AV.fnil := by kernel_rfl
@[simp] theorem aggT77 : Ev.aggT Tryz.prog 77 = some Bool.false := by kernel_rfl
@[simp] theorem tsz77 : Ev.tsz Tryz.prog 77 = some 1 := by kernel_rfl
@[simp] theorem tbytes77 : Ev.tbytes Tryz.prog 77 = some 0 := by kernel_rfl
@[simp] theorem zeroOf77 : Ev.zeroOf Tryz.prog 77 = some Ev.AV.undef := by kernel_rfl
@[simp] theorem aggT78 : Ev.aggT Tryz.prog 78 = some Bool.false := by kernel_rfl
@[simp] theorem tsz78 : Ev.tsz Tryz.prog 78 = some 1 := by kernel_rfl
@[simp] theorem tbytes78 : Ev.tbytes Tryz.prog 78 = some 8 := by kernel_rfl
@[simp] theorem zeroOf78 : Ev.zeroOf Tryz.prog 78 = some Ev.AV.fnil := by kernel_rfl
@[simp] theorem aggT79 : Ev.aggT Tryz.prog 79 = some Bool.false := by kernel_rfl
@[simp] theorem tsz79 : Ev.tsz Tryz.prog 79 = some 1 := by kernel_rfl
@[simp] theorem tbytes79 : Ev.tbytes Tryz.prog 79 = some 8 := by kernel_rfl
@[simp] theorem zeroOf79 : Ev.zeroOf Tryz.prog 79 = some Ev.AV.fnil := by kernel_rfl
@[simp] theorem aggT80 : Ev.aggT Tryz.prog 80 = some Bool.false := by kernel_rfl
@[simp] theorem tsz80 : Ev.tsz Tryz.prog 80 = some 1 := by kernel_rfl
@[simp] theorem tbytes80 : Ev.tbytes Tryz.prog 80 = some 8 := by kernel_rfl
@[simp] theorem zeroOf80 : Ev.zeroOf Tryz.prog 80 = some Ev.AV.fnil := by kernel_rfl
@[simp] theorem aggT81 : Ev.aggT Tryz.prog 81 = some Bool.false := by kernel_rfl
@[simp] theorem tsz81 : Ev.tsz Tryz.prog 81 = some 1 := by kernel_rfl
@[simp] theorem tbytes81 : Ev.tbytes Tryz.prog 81 = some 8 := by kernel_rfl
@[simp] theorem zeroOf81 : Ev.zeroOf Tryz.prog 81 = some Ev.AV.fnil := by kernel_rfl
@[simp] theorem aggT82 : Ev.aggT Tryz.prog 82 = some Bool.false := by kernel_rfl
@[simp] theorem tsz82 : Ev.tsz Tryz.prog 82 = some 1 := by kernel_rfl
@[simp] theorem tbytes82 : Ev.tbytes Tryz.prog 82 = some 8 := by kernel_rfl
@[simp] theorem zeroOf82 : Ev.zeroOf Tryz.prog 82 = some Ev.AV.pnil := by kernel_rfl
@[simp] theorem aggT83 : Ev.aggT Tryz.prog 83 = some Bool.false := by kernel_rfl
@[simp] theorem tsz83 : Ev.tsz Tryz.prog 83 = some 1 := by kernel_rfl
@[simp] theorem tbytes83 : Ev.tbytes Tryz.prog 83 = some 24 := by kernel_rfl
@[simp] theorem elemT83 : Ev.elemT Tryz.prog 83 = some 5 := by kernel_rfl
@[simp] theorem zeroOf83 : Ev.zeroOf Tryz.prog 83 = some (Ev.AV.sl 0 [] Ev.Tok.nil) := by kernel_rfl
@[simp] theorem aggT84 : Ev.aggT Tryz.prog 84 = some Bool.true := by kernel_rfl
@[simp] theorem tsz84 : Ev.tsz Tryz.prog 84 = some 2 := by kernel_rfl
@[simp] theorem tbytes84 : Ev.tbytes Tryz.prog 84 = some 32 := by kernel_rfl
@[simp] theorem placesOf84 : Ev.placesOf Tryz.prog 84 = some [(0, 1), (1, 1)] := by kernel_rfl
@[simp] theorem zeroOf84 : Ev.zeroOf Tryz.prog 84 = some (Ev.AV.agg [Ev.AV.pnil, Ev.AV.sl 0 [] Ev.Tok.nil]) := by kernel_rfl
@[simp] theorem aggT85 : Ev.aggT Tryz.prog 85 = some Bool.true := by kernel_rfl
@[simp] theorem tsz85 : Ev.tsz Tryz.prog 85 = some 2 := by kernel_rfl
@[simp] theorem tbytes85 : Ev.tbytes Tryz.prog 85 = some 32 := by kernel_rfl
@[simp] theorem placesOf85 : Ev.placesOf Tryz.prog 85 = some [(0, 1), (1, 1)] := by kernel_rfl
@[simp] theorem zeroOf85 : Ev.zeroOf Tryz.prog 85 = some (Ev.AV.agg [Ev.AV.pnil, Ev.AV.sl 0 [] Ev.Tok.nil]) := by kernel_rfl
@[simp] theorem aggT86 : Ev.aggT Tryz.prog 86 = some Bool.false := by kernel_rfl
@[simp] theorem tsz86 : Ev.tsz Tryz.prog 86 = some 1 := by kernel_rfl
@[simp] theorem tbytes86 : Ev.tbytes Tryz.prog 86 = some 8 := by kernel_rfl
@[simp] theorem zeroOf86 : Ev.zeroOf Tryz.prog 86 = some Ev.AV.fnil := by kernel_rfl
@[simp] theorem aggT87 : Ev.aggT Tryz.prog 87 = some Bool.false := by kernel_rfl
@[simp] theorem tsz87 : Ev.tsz Tryz.prog 87 = some 1 := by kernel_rfl
@[simp] theorem tbytes87 : Ev.tbytes Tryz.prog 87 = some 16 := by kernel_rfl
@[simp] theorem zeroOf87 : Ev.zeroOf Tryz.prog 87 = some Ev.AV.undef := by kernel_rfl
@[simp] theorem aggT88 : Ev.aggT Tryz.prog 88 = some Bool.false := by kernel_rfl
@[simp] theorem tsz88 : Ev.tsz Tryz.prog 88 = some 1 := by kernel_rfl
@[simp] theorem tbytes88 : Ev.tbytes Tryz.prog 88 = some 16 := by kernel_rfl
@[simp] theorem zeroOf88 : Ev.zeroOf Tryz.prog 88 = some Ev.AV.undef := by kernel_rfl
@[simp] theorem aggT89 : Ev.aggT Tryz.prog 89 = some Bool.false := by kernel_rfl
@[simp] theorem tsz89 : Ev.tsz Tryz.prog 89 = some 1 := by kernel_rfl
@[simp] theorem tbytes89 : Ev.tbytes Tryz.prog 89 = some 8 := by kernel_rfl
@[simp] theorem zeroOf89 : Ev.zeroOf Tryz.prog 89 = some Ev.AV.fnil := by kernel_rfl
@[simp] theorem aggT90 : Ev.aggT Tryz.prog 90 = some Bool.false := by kernel_rfl
@[simp] theorem tsz90 : Ev.tsz Tryz.prog 90 = some 1 := by kernel_rfl
@[simp] theorem tbytes90 : Ev.tbytes Tryz.prog 90 = some 0 := by kernel_rfl
@[simp] theorem zeroOf90 : Ev.zeroOf Tryz.prog 90 = some Ev.AV.undef := by kernel_rfl
@[simp] theorem aggT91 : Ev.aggT Tryz.prog 91 = some Bool.false := by kernel_rfl
@[simp] theorem tsz91 : Ev.tsz Tryz.prog 91 = some 1 := by kernel_rfl
@[simp] theorem tbytes91 : Ev.tbytes Tryz.prog 91 = some 8 := by kernel_rfl
@[simp] theorem zeroOf91 : Ev.zeroOf Tryz.prog 91 = some Ev.AV.fnil := by kernel_rfl
@[simp] theorem aggT92 : Ev.aggT Tryz.prog 92 = some Bool.false := by kernel_rfl
@[simp] theorem tsz92 : Ev.tsz Tryz.prog 92 = some 1 := by kernel_rfl
@[simp] theorem tbytes92 : Ev.tbytes Tryz.prog 92 = some 8 := by kernel_rfl
@[simp] theorem zeroOf92 : Ev.zeroOf Tryz.prog 92 = some Ev.AV.fnil := by kernel_rfl
@[simp] theorem aggT93 : Ev.aggT Tryz.prog 93 = some Bool.false := by kernel_rfl
@[simp] theorem tsz93 : Ev.tsz Tryz.prog 93 = some 1 := by kernel_rfl
@[simp] theorem tbytes93 : Ev.tbytes Tryz.prog 93 = some 8 := by kernel_rfl
@[simp] theorem zeroOf93 : Ev.zeroOf Tryz.prog 93 = some Ev.AV.fnil := by kernel_rfl
@[simp] theorem aggT94 : Ev.aggT Tryz.prog 94 = some Bool.false := by kernel_rfl
@[simp] theorem tsz94 : Ev.tsz Tryz.prog 94 = some 1 := by kernel_rfl
@[simp] theorem tbytes94 : Ev.tbytes Tryz.prog 94 = some 8 := by kernel_rfl
@[simp] theorem zeroOf94 : Ev.zeroOf Tryz.prog 94 = some Ev.AV.fnil := by kernel_rfl
@[simp] theorem aggT95 : Ev.aggT Tryz.prog 95 = some Bool.false := by kernel_rfl
@[simp] theorem tsz95 : Ev.tsz Tryz.prog 95 = some 1 := by kernel_rfl
@[simp] theorem tbytes95 : Ev.tbytes Tryz.prog 95 = some 8 := by kernel_rfl
@[simp] theorem zeroOf95 : Ev.zeroOf Tryz.prog 95 = some Ev.AV.fnil := by kernel_rfl
@[simp] theorem aggT96 : Ev.aggT Tryz.prog 96 = some Bool.false := by kernel_rfl
@[simp] theorem tsz96 : Ev.tsz Tryz.prog 96 = some 1 := by kernel_rfl
@[simp] theorem tbytes96 : Ev.tbytes Tryz.prog 96 = some 24 := by kernel_rfl
@[simp] theorem elemT96 : Ev.elemT Tryz.prog 96 = some 98 := by kernel_rfl
@[simp] theorem zeroOf96 : Ev.zeroOf Tryz.prog 96 = some (Ev.AV.sl 0 [] Ev.Tok.nil) := by kernel_rfl
@[simp] theorem aggT97 : Ev.aggT Tryz.prog 97 = some Bool.true := by kernel_rfl
@[simp] theorem tsz97 : Ev.tsz Tryz.prog 97 = some 2 := by kernel_rfl
@[simp] theorem tbytes97 : Ev.tbytes Tryz.prog 97 = some 32 := by kernel_rfl
@[simp] theorem placesOf97 : Ev.placesOf Tryz.prog 97 = some [(0, 1), (1, 1)] := by kernel_rfl
@[simp] theorem zeroOf97 : Ev.zeroOf Tryz.prog 97 = some (Ev.AV.agg [Ev.AV.str [], Ev.AV.str []]) := by kernel_rfl
@[simp] theorem aggT98 : Ev.aggT Tryz.prog 98 = some Bool.true := by kernel_rfl
@[simp] theorem tsz98 : Ev.tsz Tryz.prog 98 = some 2 := by kernel_rfl
@[simp] theorem tbytes98 : Ev.tbytes Tryz.prog 98 = some 32 := by kernel_rfl
@[simp] theorem placesOf98 : Ev.placesOf Tryz.prog 98 = some [(0, 1), (1, 1)] := by kernel_rfl
@[simp] theorem zeroOf98 : Ev.zeroOf Tryz.prog 98 = some (Ev.AV.agg [Ev.AV.str [], Ev.AV.str []]) := by kernel_rfl
@[simp] theorem aggT99 : Ev.aggT Tryz.prog 99 = some Bool.false := by kernel_rfl
@[simp] theorem tsz99 : Ev.tsz Tryz.prog 99 = some 1 := by kernel_rfl
@[simp] theorem tbytes99 : Ev.tbytes Tryz.prog 99 = some 8 := by kernel_rfl
@[simp] theorem zeroOf99 : Ev.zeroOf Tryz.prog 99 = some Ev.AV.fnil := by kernel_rfl
@[simp] theorem aggT100 : Ev.aggT Tryz.prog 100 = some Bool.false := by kernel_rfl
@[simp] theorem tsz100 : Ev.tsz Tryz.prog 100 = some 1 := by kernel_rfl
@[simp] theorem tbytes100 : Ev.tbytes Tryz.prog 100 = some 8 := by kernel_rfl
@[simp] theorem zeroOf100 : Ev.zeroOf Tryz.prog 100 = some Ev.AV.fnil := by kernel_rfl
@[simp] theorem aggT101 : Ev.aggT Tryz.prog 101 = some Bool.false := by kernel_rfl
@[simp] theorem tsz101 : Ev.tsz Tryz.prog 101 = some 1 := by kernel_rfl
@[simp] theorem tbytes101 : Ev.tbytes Tryz.prog 101 = some 8 := by kernel_rfl
@[simp] theorem zeroOf101 : Ev.zeroOf Tryz.prog 101 = some Ev.AV.fnil := by kernel_rfl
@[simp] theorem aggT102 : Ev.aggT Tryz.prog 102 = some Bool.false := by kernel_rfl
@[simp] theorem tsz102 : Ev.tsz Tryz.prog 102 = some 1 := by kernel_rfl
@[simp] theorem tbytes102 : Ev.tbytes Tryz.prog 102 = some 24 := by kernel_rfl
@[simp] theorem elemT102 : Ev.elemT Tryz.prog 102 = some 104 := by kernel_rfl
@[simp] theorem zeroOf102 : Ev.zeroOf Tryz.prog 102 = some (Ev.AV.sl 0 [] Ev.Tok.nil) := by kernel_rfl
@[simp] theorem aggT103 : Ev.aggT Tryz.prog 103 = some Bool.false := by kernel_rfl
@[simp] theorem tsz103 : Ev.tsz Tryz.prog 103 = some 1 := by kernel_rfl
@[simp] theorem tbytes103 : Ev.tbytes Tryz.prog 103 = some 8 := by kernel_rfl
@[simp] theorem zeroOf103 : Ev.zeroOf Tryz.prog 103 = some Ev.AV.fnil := by kernel_rfl
@[simp] theorem aggT104 : Ev.aggT Tryz.prog 104 = some Bool.true := by kernel_rfl
@[simp] theorem tsz104 : Ev.tsz Tryz.prog 104 = some 2 := by kernel_rfl
@[simp] theorem tbytes104 : Ev.tbytes Tryz.prog 104 = some 32 := by kernel_rfl
@[simp] theorem placesOf104 : Ev.placesOf Tryz.prog 104 = some [(0, 1), (1, 1)] := by kernel_rfl
@[simp] theorem zeroOf104 : Ev.zeroOf Tryz.prog 104 = some (Ev.AV.agg [Ev.AV.str [], Ev.AV.str []]) := by kernel_rfl
@[simp] theorem aggT105 : Ev.aggT Tryz.prog 105 = some Bool.false := by kernel_rfl
@[simp] theorem tsz105 : Ev.tsz Tryz.prog 105 = some 1 := by kernel_rfl
@[simp] theorem tbytes105 : Ev.tbytes Tryz.prog 105 = some 24 := by kernel_rfl
@[simp] theorem elemT105 : Ev.elemT Tryz.prog 105 = some 25 := by kernel_rfl
@[simp] theorem zeroOf105 : Ev.zeroOf Tryz.prog 105 = some (Ev.AV.sl 0 [] Ev.Tok.nil) := by kernel_rfl
@[simp] theorem aggT106 : Ev.aggT Tryz.prog 106 = some Bool.false := by kernel_rfl
@[simp] theorem tsz106 : Ev.tsz Tryz.prog 106 = some 1 := by kernel_rfl
@[simp] theorem tbytes106 : Ev.tbytes Tryz.prog 106 = some 8 := by kernel_rfl
@[simp] theorem zeroOf106 : Ev.zeroOf Tryz.prog 106 = some Ev.AV.fnil := by kernel_rfl
@[simp] theorem aggT107 : Ev.aggT Tryz.prog 107 = some Bool.false := by kernel_rfl
@[simp] theorem tsz107 : Ev.tsz Tryz.prog 107 = some 1 := by kernel_rfl
@[simp] theorem tbytes107 : Ev.tbytes Tryz.prog 107 = some 0 := by kernel_rfl
@[simp] theorem zeroOf107 : Ev.zeroOf Tryz.prog 107 = some Ev.AV.undef := by kernel_rfl
@[simp] theorem aggT108 : Ev.aggT Tryz.prog 108 = some Bool.false := by kernel_rfl
@[simp] theorem tsz108 : Ev.tsz Tryz.prog 108 = some 1 := by kernel_rfl
@[simp] theorem tbytes108 : Ev.tbytes Tryz.prog 108 = some 8 := by kernel_rfl
@[simp] theorem zeroOf108 : Ev.zeroOf Tryz.prog 108 = some Ev.AV.fnil := by kernel_rfl
@[simp] theorem aggT109 : Ev.aggT Tryz.prog 109 = some Bool.false := by kernel_rfl
@[simp] theorem tsz109 : Ev.tsz Tryz.prog 109 = some 1 := by kernel_rfl
@[simp] theorem tbytes109 : Ev.tbytes Tryz.prog 109 = some 8 := by kernel_rfl
@[simp] theorem zeroOf109 : Ev.zeroOf Tryz.prog 109 = some Ev.AV.fnil := by kernel_rfl
@[simp] theorem aggT110 : Ev.aggT Tryz.prog 110 = some Bool.false := by kernel_rfl
@[simp] theorem tsz110 : Ev.tsz Tryz.prog 110 = some 1 := by kernel_rfl
@[simp] theorem tbytes110 : Ev.tbytes Tryz.prog 110 = some 8 := by kernel_rfl
@[simp] theorem zeroOf110 : Ev.zeroOf Tryz.prog 110 = some (Ev.AV.int Go.IntKind.u64 0) := by kernel_rfl
@[simp] theorem aggT111 : Ev.aggT Tryz.prog 111 = some Bool.false := by kernel_rfl
@[simp] theorem tsz111 : Ev.tsz Tryz.prog 111 = some 1 := by kernel_rfl
@[simp] theorem tbytes111 : Ev.tbytes Tryz.prog 111 = some 0 := by kernel_rfl
@[simp] theorem zeroOf111 : Ev.zeroOf Tryz.prog 111 = some Ev.AV.undef := by kernel_rfl
@[simp] theorem aggT112 : Ev.aggT Tryz.prog 112 = some Bool.false := by kernel_rfl
@[simp] theorem tsz112 : Ev.tsz Tryz.prog 112 = some 1 := by kernel_rfl
@[simp] theorem tbytes112 : Ev.tbytes Tryz.prog 112 = some 8 := by kernel_rfl
@[simp] theorem zeroOf112 : Ev.zeroOf Tryz.prog 112 = some Ev.AV.fnil := by kernel_rfl
@[simp] theorem aggT113 : Ev.aggT Tryz.prog 113 = some Bool.false := by kernel_rfl
@[simp] theorem tsz113 : Ev.tsz Tryz.prog 113 = some 1 := by kernel_rfl
@[simp] theorem tbytes113 : Ev.tbytes Tryz.prog 113 = some 8 := by kernel_rfl
@[simp] theorem zeroOf113 : Ev.zeroOf Tryz.prog 113 = some Ev.AV.fnil := by kernel_rfl
@[simp] theorem aggT114 : Ev.aggT Tryz.prog 114 = some Bool.false := by kernel_rfl
@[simp] theorem tsz114 : Ev.tsz Tryz.prog 114 = some 1 := by kernel_rfl
@[simp] theorem tbytes114 : Ev.tbytes Tryz.prog 114 = some 8 := by kernel_rfl
@[simp] theorem zeroOf114 : Ev.zeroOf Tryz.prog 114 = some Ev.AV.fnil := by kernel_rfl
@[simp] theorem aggT115 : Ev.aggT Tryz.prog 115 = some Bool.false := by kernel_rfl
@[simp] theorem tsz115 : Ev.tsz Tryz.prog 115 = some 1 := by kernel_rfl
@[simp] theorem tbytes115 : Ev.tbytes Tryz.prog 115 = some 0 := by kernel_rfl
@[simp] theorem zeroOf115 : Ev.zeroOf Tryz.prog 115 = some Ev.AV.undef := by kernel_rfl
@[simp] theorem aggT116 : Ev.aggT Tryz.prog 116 = some Bool.false := by kernel_rfl
@[simp] theorem tsz116 : Ev.tsz Tryz.prog 116 = some 1 := by kernel_rfl
@[simp] theorem tbytes116 : Ev.tbytes Tryz.prog 116 = some 8 := by kernel_rfl
@[simp] theorem zeroOf116 : Ev.zeroOf Tryz.prog 116 = some Ev.AV.fnil := by kernel_rfl
@[simp] theorem aggT117 : Ev.aggT Tryz.prog 117 = some Bool.true := by kernel_rfl
@[simp] theorem tsz117 : Ev.tsz Tryz.prog 117 = some 3 := by kernel_rfl
@[simp] theorem tbytes117 : Ev.tbytes Tryz.prog 117 = some 24 := by kernel_rfl
@[simp] theorem placesOf117 : Ev.placesOf Tryz.prog 117 = some [(0, 1), (1, 1), (2, 1)] := by kernel_rfl
@[simp] theorem zeroOf117 : Ev.zeroOf Tryz.prog 117 = some (Ev.AV.agg [Ev.AV.int Go.IntKind.i64 0, Ev.AV.int Go.IntKind.i64 0, Ev.AV.int Go.IntKind.i64 0]) := by kernel_rfl
@[simp] theorem aggT118 : Ev.aggT Tryz.prog 118 = some Bool.true := by kernel_rfl
@[simp] theorem tsz118 : Ev.tsz Tryz.prog 118 = some 3 := by kernel_rfl
@[simp] theorem tbytes118 : Ev.tbytes Tryz.prog 118 = some 24 := by kernel_rfl
@[simp] theorem placesOf118 : Ev.placesOf Tryz.prog 118 = some [(0, 1), (1, 1), (2, 1)] := by kernel_rfl
@[simp] theorem zeroOf118 : Ev.zeroOf Tryz.prog 118 = some (Ev.AV.agg [Ev.AV.int Go.IntKind.i64 0, Ev.AV.int Go.IntKind.i64 0, Ev.AV.int Go.IntKind.i64 0]) := by kernel_rfl
@[simp] theorem aggT119 : Ev.aggT Tryz.prog 119 = some Bool.false := by kernel_rfl
@[simp] theorem tsz119 : Ev.tsz Tryz.prog 119 = some 1 := by kernel_rfl
@[simp] theorem tbytes119 : Ev.tbytes Tryz.prog 119 = some 8 := by kernel_rfl
@[simp] theorem zeroOf119 : Ev.zeroOf Tryz.prog 119 = some Ev.AV.fnil := by kernel_rfl
@[simp] theorem aggT120 : Ev.aggT Tryz.prog 120 = some Bool.false := by kernel_rfl
@[simp] theorem tsz120 : Ev.tsz Tryz.prog 120 = some 1 := by kernel_rfl
@[simp] theorem tbytes120 : Ev.tbytes Tryz.prog 120 = some 8 := by kernel_rfl
@[simp] theorem zeroOf120 : Ev.zeroOf Tryz.prog 120 = some Ev.AV.fnil := by kernel_rfl
@[simp] theorem aggT121 : Ev.aggT Tryz.prog 121 = some Bool.false := by kernel_rfl
@[simp] theorem tsz121 : Ev.tsz Tryz.prog 121 = some 1 := by kernel_rfl
@[simp] theorem tbytes121 : Ev.tbytes Tryz.prog 121 = some 8 := by kernel_rfl
@[simp] theorem zeroOf121 : Ev.zeroOf Tryz.prog 121 = some Ev.AV.pnil := by kernel_rfl
@[simp] theorem aggT122 : Ev.aggT Tryz.prog 122 = some Bool.false := by kernel_rfl
@[simp] theorem tsz122 : Ev.tsz Tryz.prog 122 = some 1 := by kernel_rfl
@[simp] theorem tbytes122 : Ev.tbytes Tryz.prog 122 = some 8 := by kernel_rfl
@[simp] theorem zeroOf122 : Ev.zeroOf Tryz.prog 122 = some Ev.AV.fnil := by kernel_rfl
@[simp] theorem aggT123 : Ev.aggT Tryz.prog 123 = some Bool.false := by kernel_rfl
@[simp] theorem tsz123 : Ev.tsz Tryz.prog 123 = some 1 := by kernel_rfl
@[simp] theorem tbytes123 : Ev.tbytes Tryz.prog 123 = some 8 := by kernel_rfl
@[simp] theorem zeroOf123 : Ev.zeroOf Tryz.prog 123 = some Ev.AV.fnil := by kernel_rfl
@[simp] theorem aggT124 : Ev.aggT Tryz.prog 124 = some Bool.false := by kernel_rfl
@[simp] theorem tsz124 : Ev.tsz Tryz.prog 124 = some 1 := by kernel_rfl
@[simp] theorem tbytes124 : Ev.tbytes Tryz.prog 124 = some 8 := by kernel_rfl
@[simp] theorem zeroOf124 : Ev.zeroOf Tryz.prog 124 = some Ev.AV.fnil := by kernel_rfl
@[simp] theorem aggT125 : Ev.aggT Tryz.prog 125 = some Bool.false := by kernel_rfl
@[simp] theorem tsz125 : Ev.tsz Tryz.prog 125 = some 1 := by kernel_rfl
@[simp] theorem tbytes125 : Ev.tbytes Tryz.prog 125 = some 8 := by kernel_rfl
@[simp] theorem zeroOf125 : Ev.zeroOf Tryz.prog 125 = some Ev.AV.fnil := by kernel_rfl
@[simp] theorem aggT126 : Ev.aggT Tryz.prog 126 = some Bool.false := by kernel_rfl
@[simp] theorem tsz126 : Ev.tsz Tryz.prog 126 = some 1 := by kernel_rfl
@[simp] theorem tbytes126 : Ev.tbytes Tryz.prog 126 = some 8 := by kernel_rfl
@[simp] theorem zeroOf126 : Ev.zeroOf Tryz.prog 126 = some Ev.AV.fnil := by kernel_rfl
@[simp] theorem aggT127 : Ev.aggT Tryz.prog 127 = some Bool.false := by kernel_rfl
@[simp] theorem tsz127 : Ev.tsz Tryz.prog 127 = some 1 := by kernel_rfl
@[simp] theorem tbytes127 : Ev.tbytes Tryz.prog 127 = some 8 := by kernel_rfl
@[simp] theorem zeroOf127 : Ev.zeroOf Tryz.prog 127 = some Ev.AV.fnil := by kernel_rfl
@[simp] theorem aggT128 : Ev.aggT Tryz.prog 128 = some Bool.false := by kernel_rfl
@[simp] theorem tsz128 : Ev.tsz Tryz.prog 128 = some 1 := by kernel_rfl
@[simp] theorem tbytes128 : Ev.tbytes Tryz.prog 128 = some 8 := by kernel_rfl
@[simp] theorem zeroOf128 : Ev.zeroOf Tryz.prog 128 = some Ev.AV.fnil := by kernel_rfl
@[simp] theorem aggT129 : Ev.aggT Tryz.prog 129 = some Bool.true := by kernel_rfl
@[simp] theorem tsz129 : Ev.tsz Tryz.prog 129 = some 3 := by kernel_rfl
@[simp] theorem tbytes129 : Ev.tbytes Tryz.prog 129 = some 24 := by kernel_rfl
@[simp] theorem placesOf129 : Ev.placesOf Tryz.prog 129 = some [(0, 1), (1, 1), (2, 1)] := by kernel_rfl
@[simp] theorem zeroOf129 : Ev.zeroOf Tryz.prog 129 = some (Ev.AV.agg [Ev.AV.int Go.IntKind.i64 0, Ev.AV.int Go.IntKind.i64 0, Ev.AV.int Go.IntKind.i64 0]) := by kernel_rfl
@[simp] theorem aggT130 : Ev.aggT Tryz.prog 130 = some Bool.true := by kernel_rfl
@[simp] theorem tsz130 : Ev.tsz Tryz.prog 130 = some 3 := by kernel_rfl
@[simp] theorem tbytes130 : Ev.tbytes Tryz.prog 130 = some 24 := by kernel_rfl
@[simp] theorem placesOf130 : Ev.placesOf Tryz.prog 130 = some [(0, 1), (1, 1), (2, 1)] := by kernel_rfl
@[simp] theorem zeroOf130 : Ev.zeroOf Tryz.prog 130 = some (Ev.AV.agg [Ev.AV.int Go.IntKind.i64 0, Ev.AV.int Go.IntKind.i64 0, Ev.AV.int Go.IntKind.i64 0]) := by kernel_rfl
@[simp] theorem aggT131 : Ev.aggT Tryz.prog 131 = some Bool.false := by kernel_rfl
@[simp] theorem tsz131 : Ev.tsz Tryz.prog 131 = some 1 := by kernel_rfl
@[simp] theorem tbytes131 : Ev.tbytes Tryz.prog 131 = some 8 := by kernel_rfl
@[simp] theorem zeroOf131 : Ev.zeroOf Tryz.prog 131 = some Ev.AV.fnil := by kernel_rfl
@[simp] theorem aggT132 : Ev.aggT Tryz.prog 132 = some Bool.false := by kernel_rfl
@[simp] theorem tsz132 : Ev.tsz Tryz.prog 132 = some 1 := by kernel_rfl
@[simp] theorem tbytes132 : Ev.tbytes Tryz.prog 132 = some 4 := by kernel_rfl
@[simp] theorem zeroOf132 : Ev.zeroOf Tryz.prog 132 = some (Ev.AV.int Go.IntKind.u32 0) := by kernel_rfl
@[simp] theorem aggT133 : Ev.aggT Tryz.prog 133 = some Bool.false := by kernel_rfl
@[simp] theorem tsz133 : Ev.tsz Tryz.prog 133 = some 1 := by kernel_rfl
@[simp] theorem tbytes133 : Ev.tbytes Tryz.prog 133 = some 0 := by kernel_rfl
@[simp] theorem zeroOf133 : Ev.zeroOf Tryz.prog 133 = some Ev.AV.undef := by kernel_rfl
@[simp] theorem aggT134 : Ev.aggT Tryz.prog 134 = some Bool.false := by kernel_rfl
@[simp] theorem tsz134 : Ev.tsz Tryz.prog 134 = some 1 := by kernel_rfl
@[simp] theorem tbytes134 : Ev.tbytes Tryz.prog 134 = some 8 := by kernel_rfl
@[simp] theorem zeroOf134 : Ev.zeroOf Tryz.prog 134 = some Ev.AV.fnil := by kernel_rfl
@[simp] theorem aggT135 : Ev.aggT Tryz.prog 135 = some Bool.false := by kernel_rfl
@[simp] theorem tsz135 : Ev.tsz Tryz.prog 135 = some 1 := by kernel_rfl
@[simp] theorem tbytes135 : Ev.tbytes Tryz.prog 135 = some 8 := by kernel_rfl
@[simp] theorem zeroOf135 : Ev.zeroOf Tryz.prog 135 = some (Ev.AV.int Go.IntKind.u64 0) := by kernel_rfl
@[simp] theorem aggT136 : Ev.aggT Tryz.prog 136 = some Bool.false := by kernel_rfl
@[simp] theorem tsz136 : Ev.tsz Tryz.prog 136 = some 1 := by kernel_rfl
@[simp] theorem tbytes136 : Ev.tbytes Tryz.prog 136 = some 0 := by kernel_rfl
@[simp] theorem zeroOf136 : Ev.zeroOf Tryz.prog 136 = some Ev.AV.undef := by kernel_rfl
@[simp] theorem aggT137 : Ev.aggT Tryz.prog 137 = some Bool.false := by kernel_rfl
@[simp] theorem tsz137 : Ev.tsz Tryz.prog 137 = some 1 := by kernel_rfl
@[simp] theorem tbytes137 : Ev.tbytes Tryz.prog 137 = some 8 := by kernel_rfl
@[simp] theorem zeroOf137 : Ev.zeroOf Tryz.prog 137 = some Ev.AV.fnil := by kernel_rfl
@[simp] theorem aggT138 : Ev.aggT Tryz.prog 138 = some Bool.false := by kernel_rfl
@[simp] theorem tsz138 : Ev.tsz Tryz.prog 138 = some 1 := by kernel_rfl
@[simp] theorem tbytes138 : Ev.tbytes Tryz.prog 138 = some 8 := by kernel_rfl
@[simp] theorem zeroOf138 : Ev.zeroOf Tryz.prog 138 = some Ev.AV.fnil := by kernel_rfl
@[simp] theorem aggT139 : Ev.aggT Tryz.prog 139 = some Bool.false := by kernel_rfl
@[simp] theorem tsz139 : Ev.tsz Tryz.prog 139 = some 1 := by kernel_rfl
@[simp] theorem tbytes139 : Ev.tbytes Tryz.prog 139 = some 8 := by kernel_rfl
@[simp] theorem zeroOf139 : Ev.zeroOf Tryz.prog 139 = some Ev.AV.fnil := by kernel_rfl
@[simp] theorem aggT140 : Ev.aggT Tryz.prog 140 = some Bool.false := by kernel_rfl
@[simp] theorem tsz140 : Ev.tsz Tryz.prog 140 = some 1 := by kernel_rfl
@[simp] theorem tbytes140 : Ev.tbytes Tryz.prog 140 = some 8 := by kernel_rfl
@[simp] theorem zeroOf140 : Ev.zeroOf Tryz.prog 140 = some Ev.AV.pnil := by kernel_rfl
@[simp] theorem aggT141 : Ev.aggT Tryz.prog 141 = some Bool.false := by kernel_rfl
@[simp] theorem tsz141 : Ev.tsz Tryz.prog 141 = some 1 := by kernel_rfl
@[simp] theorem tbytes141 : Ev.tbytes Tryz.prog 141 = some 8 := by kernel_rfl
@[simp] theorem zeroOf141 : Ev.zeroOf Tryz.prog 141 = some Ev.AV.fnil := by kernel_rfl
@[simp] theorem fieldT7_0 : Ev.fieldT Tryz.prog 7 0 = some (0, 2) := by kernel_rfl
@[simp] theorem fieldT7_1 : Ev.fieldT Tryz.prog 7 1 = some (1, 3) := by kernel_rfl
@[simp] theorem fieldT7_2 : Ev.fieldT Tryz.prog 7 2 = some (2, 4) := by kernel_rfl
@[simp] theorem fieldT7_3 : Ev.fieldT Tryz.prog 7 3 = some (3, 6) := by kernel_rfl
@[simp] theorem fieldT8_0 : Ev.fieldT Tryz.prog 8 0 = some (0, 2) := by kernel_rfl
@[simp] theorem fieldT8_1 : Ev.fieldT Tryz.prog 8 1 = some (1, 3) := by kernel_rfl
@[simp] theorem fieldT8_2 : Ev.fieldT Tryz.prog 8 2 = some (2, 4) := by kernel_rfl
@[simp] theorem fieldT8_3 : Ev.fieldT Tryz.prog 8 3 = some (3, 6) := by kernel_rfl
@[simp] theorem fieldT13_0 : Ev.fieldT Tryz.prog 13 0 = some (0, 9) := by kernel_rfl
@[simp] theorem fieldT13_1 : Ev.fieldT Tryz.prog 13 1 = some (1, 12) := by kernel_rfl
@[simp] theorem fieldT14_0 : Ev.fieldT Tryz.prog 14 0 = some (0, 9) := by kernel_rfl
@[simp] theorem fieldT14_1 : Ev.fieldT Tryz.prog 14 1 = some (1, 12) := by kernel_rfl
@[simp] theorem fieldT18_0 : Ev.fieldT Tryz.prog 18 0 = some (0, 17) := by kernel_rfl
@[simp] theorem fieldT19_0 : Ev.fieldT Tryz.prog 19 0 = some (0, 17) := by kernel_rfl
@[simp] theorem fieldT22_0 : Ev.fieldT Tryz.prog 22 0 = some (0, 3) := by kernel_rfl
@[simp] theorem fieldT22_1 : Ev.fieldT Tryz.prog 22 1 = some (1, 9) := by kernel_rfl
@[simp] theorem fieldT22_2 : Ev.fieldT Tryz.prog 22 2 = some (2, 3) := by kernel_rfl
@[simp] theorem fieldT22_3 : Ev.fieldT Tryz.prog 22 3 = some (3, 3) := by kernel_rfl
@[simp] theorem fieldT23_0 : Ev.fieldT Tryz.prog 23 0 = some (0, 3) := by kernel_rfl
@[simp] theorem fieldT23_1 : Ev.fieldT Tryz.prog 23 1 = some (1, 9) := by kernel_rfl
@[simp] theorem fieldT23_2 : Ev.fieldT Tryz.prog 23 2 = some (2, 3) := by kernel_rfl
@[simp] theorem fieldT23_3 : Ev.fieldT Tryz.prog 23 3 = some (3, 3) := by kernel_rfl
@[simp] theorem fieldT34_0 : Ev.fieldT Tryz.prog 34 0 = some (0, 3) := by kernel_rfl
@[simp] theorem fieldT34_1 : Ev.fieldT Tryz.prog 34 1 = some (1, 3) := by kernel_rfl
@[simp] theorem fieldT35_0 : Ev.fieldT Tryz.prog 35 0 = some (0, 3) := by kernel_rfl
@[simp] theorem fieldT35_1 : Ev.fieldT Tryz.prog 35 1 = some (1, 3) := by kernel_rfl
@[simp] theorem fieldT44_0 : Ev.fieldT Tryz.prog 44 0 = some (0, 33) := by kernel_rfl
@[simp] theorem fieldT44_1 : Ev.fieldT Tryz.prog 44 1 = some (1, 39) := by kernel_rfl
@[simp] theorem fieldT44_2 : Ev.fieldT Tryz.prog 44 2 = some (2, 35) := by kernel_rfl
@[simp] theorem fieldT44_3 : Ev.fieldT Tryz.prog 44 3 = some (4, 3) := by kernel_rfl
@[simp] theorem fieldT45_0 : Ev.fieldT Tryz.prog 45 0 = some (0, 33) := by kernel_rfl
@[simp] theorem fieldT45_1 : Ev.fieldT Tryz.prog 45 1 = some (1, 39) := by kernel_rfl
@[simp] theorem fieldT45_2 : Ev.fieldT Tryz.prog 45 2 = some (2, 35) := by kernel_rfl
@[simp] theorem fieldT45_3 : Ev.fieldT Tryz.prog 45 3 = some (4, 3) := by kernel_rfl
@[simp] theorem fieldT48_0 : Ev.fieldT Tryz.prog 48 0 = some (0, 35) := by kernel_rfl
@[simp] theorem fieldT48_1 : Ev.fieldT Tryz.prog 48 1 = some (2, 35) := by kernel_rfl
@[simp] theorem fieldT49_0 : Ev.fieldT Tryz.prog 49 0 = some (0, 35) := by kernel_rfl
@[simp] theorem fieldT49_1 : Ev.fieldT Tryz.prog 49 1 = some (2, 35) := by kernel_rfl
@[simp] theorem fieldT74_0 : Ev.fieldT Tryz.prog 74 0 = some (0, 31) := by kernel_rfl
@[simp] theorem fieldT74_1 : Ev.fieldT Tryz.prog 74 1 = some (1, 35) := by kernel_rfl
@[simp] theorem fieldT74_2 : Ev.fieldT Tryz.prog 74 2 = some (3, 33) := by kernel_rfl
@[simp] theorem fieldT74_3 : Ev.fieldT Tryz.prog 74 3 = some (4, 39) := by kernel_rfl
@[simp] theorem fieldT75_0 : Ev.fieldT Tryz.prog 75 0 = some (0, 31) := by kernel_rfl
@[simp] theorem fieldT75_1 : Ev.fieldT Tryz.prog 75 1 = some (1, 35) := by kernel_rfl
@[simp] theorem fieldT75_2 : Ev.fieldT Tryz.prog 75 2 = some (3, 33) := by kernel_rfl
@[simp] theorem fieldT75_3 : Ev.fieldT Tryz.prog 75 3 = some (4, 39) := by kernel_rfl
@[simp] theorem fieldT84_0 : Ev.fieldT Tryz.prog 84 0 = some (0, 82) := by kernel_rfl
@[simp] theorem fieldT84_1 : Ev.fieldT Tryz.prog 84 1 = some (1, 83) := by kernel_rfl
@[simp] theorem fieldT85_0 : Ev.fieldT Tryz.prog 85 0 = some (0, 82) := by kernel_rfl
@[simp] theorem fieldT85_1 : Ev.fieldT Tryz.prog 85 1 = some (1, 83) := by kernel_rfl
@[simp] theorem fieldT97_0 : Ev.fieldT Tryz.prog 97 0 = some (0, 9) := by kernel_rfl
@[simp] theorem fieldT97_1 : Ev.fieldT Tryz.prog 97 1 = some (1, 9) := by kernel_rfl
@[simp] theorem fieldT98_0 : Ev.fieldT Tryz.prog 98 0 = some (0, 9) := by kernel_rfl
@[simp] theorem fieldT98_1 : Ev.fieldT Tryz.prog 98 1 = some (1, 9) := by kernel_rfl
@[simp] theorem fieldT117_0 : Ev.fieldT Tryz.prog 117 0 = some (0, 3) := by kernel_rfl
@[simp] theorem fieldT117_1 : Ev.fieldT Tryz.prog 117 1 = some (1, 3) := by kernel_rfl
@[simp] theorem fieldT117_2 : Ev.fieldT Tryz.prog 117 2 = some (2, 3) := by kernel_rfl
@[simp] theorem fieldT118_0 : Ev.fieldT Tryz.prog 118 0 = some (0, 3) := by kernel_rfl
@[simp] theorem fieldT118_1 : Ev.fieldT Tryz.prog 118 1 = some (1, 3) := by kernel_rfl
@[simp] theorem fieldT118_2 : Ev.fieldT Tryz.prog 118 2 = some (2, 3) := by kernel_rfl
@[simp] theorem fieldT129_0 : Ev.fieldT Tryz.prog 129 0 = some (0, 3) := by kernel_rfl
@[simp] theorem fieldT129_1 : Ev.fieldT Tryz.prog 129 1 = some (1, 3) := by kernel_rfl
@[simp] theorem fieldT129_2 : Ev.fieldT Tryz.prog 129 2 = some (2, 25) := by kernel_rfl
@[simp] theorem fieldT130_0 : Ev.fieldT Tryz.prog 130 0 = some (0, 3) := by kernel_rfl
@[simp] theorem fieldT130_1 : Ev.fieldT Tryz.prog 130 1 = some (1, 3) := by kernel_rfl
@[simp] theorem fieldT130_2 : Ev.fieldT Tryz.prog 130 2 = some (2, 25) := by kernel_rfl
theorem mixed : Tryz.prog.follows .mixedOrders = true := by kernel_rfl

end Go.Proofs.YtlmmgblghgmgeaaGreatDoor
