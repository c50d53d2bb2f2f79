/- Table lemmas: what the given program has at each type and function number that is used; each by evaluation. -/
import Derived.Test.YtdcbbmnihcfdlaaEng23
import Derived.Test.YtdcbbmnihcfdlaaProg
set_option linter.unusedVariables false
set_option linter.unusedSimpArgs false
set_option linter.unnecessarySimpa false
set_option linter.constructorNameAsVariable false
set_option linter.all false
set_option linter.unusedVariables false
set_option maxRecDepth 100000
namespace Go.Eng.Tab
open Go.Proofs
theorem tk2 : tk Try.prog 2 = .int .i64 := by kernel_rfl
theorem sz2 : szOf Try.prog 2 = 1 := by kernel_rfl
theorem by2 : byOf Try.prog 2 = 8 := by kernel_rfl
theorem zv2 : zv Try.prog 2 = some [Value.int IntKind.i64 0] := by kernel_rfl
theorem zsv2 : zsv Try.prog 2 = some (.v (Value.int IntKind.i64 0)) := by kernel_rfl
theorem tk3 : tk Try.prog 3 = .int .i64 := by kernel_rfl
theorem sz3 : szOf Try.prog 3 = 1 := by kernel_rfl
theorem by3 : byOf Try.prog 3 = 8 := by kernel_rfl
theorem zv3 : zv Try.prog 3 = some [Value.int IntKind.i64 0] := by kernel_rfl
theorem zsv3 : zsv Try.prog 3 = some (.v (Value.int IntKind.i64 0)) := by kernel_rfl
theorem tk4 : tk Try.prog 4 = .bool := by kernel_rfl
theorem sz4 : szOf Try.prog 4 = 1 := by kernel_rfl
theorem by4 : byOf Try.prog 4 = 1 := by kernel_rfl
theorem zv4 : zv Try.prog 4 = some [Value.bool false] := by kernel_rfl
theorem zsv4 : zsv Try.prog 4 = some (.v (Value.bool false)) := by kernel_rfl
theorem tk5 : tk Try.prog 5 = .int .u8 := by kernel_rfl
theorem sz5 : szOf Try.prog 5 = 1 := by kernel_rfl
theorem by5 : byOf Try.prog 5 = 1 := by kernel_rfl
theorem zv5 : zv Try.prog 5 = some [Value.int IntKind.u8 0] := by kernel_rfl
theorem zsv5 : zsv Try.prog 5 = some (.v (Value.int IntKind.u8 0)) := by kernel_rfl
theorem tk6 : tk Try.prog 6 = .int .u8 := by kernel_rfl
theorem sz6 : szOf Try.prog 6 = 1 := by kernel_rfl
theorem by6 : byOf Try.prog 6 = 1 := by kernel_rfl
theorem zv6 : zv Try.prog 6 = some [Value.int IntKind.u8 0] := by kernel_rfl
theorem zsv6 : zsv Try.prog 6 = some (.v (Value.int IntKind.u8 0)) := by kernel_rfl
theorem tk7 : tk Try.prog 7 = .st 4 := by kernel_rfl
theorem sz7 : szOf Try.prog 7 = 4 := by kernel_rfl
theorem by7 : byOf Try.prog 7 = 24 := by kernel_rfl
theorem zv7 : zv Try.prog 7 = some [Value.int IntKind.i64 0, Value.int IntKind.i64 0, Value.bool false, Value.int IntKind.u8 0] := by kernel_rfl
theorem zsv7 : zsv Try.prog 7 = some (.agg [.v (Value.int IntKind.i64 0), .v (Value.int IntKind.i64 0), .v (Value.bool false), .v (Value.int IntKind.u8 0)]) := by kernel_rfl
theorem fd7x0 : fd Try.prog 7 0 = some (0, 2) := by kernel_rfl
theorem fd7x1 : fd Try.prog 7 1 = some (1, 3) := by kernel_rfl
theorem fd7x2 : fd Try.prog 7 2 = some (2, 4) := by kernel_rfl
theorem fd7x3 : fd Try.prog 7 3 = some (3, 6) := by kernel_rfl
theorem bp7 : bplace Try.prog 7 = some [(0, 1), (1, 1), (2, 1), (3, 1)] := by kernel_rfl
theorem tk8 : tk Try.prog 8 = .st 4 := by kernel_rfl
theorem sz8 : szOf Try.prog 8 = 4 := by kernel_rfl
theorem by8 : byOf Try.prog 8 = 24 := by kernel_rfl
theorem zv8 : zv Try.prog 8 = some [Value.int IntKind.i64 0, Value.int IntKind.i64 0, Value.bool false, Value.int IntKind.u8 0] := by kernel_rfl
theorem zsv8 : zsv Try.prog 8 = some (.agg [.v (Value.int IntKind.i64 0), .v (Value.int IntKind.i64 0), .v (Value.bool false), .v (Value.int IntKind.u8 0)]) := by kernel_rfl
theorem fd8x0 : fd Try.prog 8 0 = some (0, 2) := by kernel_rfl
theorem fd8x1 : fd Try.prog 8 1 = some (1, 3) := by kernel_rfl
theorem fd8x2 : fd Try.prog 8 2 = some (2, 4) := by kernel_rfl
theorem fd8x3 : fd Try.prog 8 3 = some (3, 6) := by kernel_rfl
theorem bp8 : bplace Try.prog 8 = some [(0, 1), (1, 1), (2, 1), (3, 1)] := by kernel_rfl
theorem tk9 : tk Try.prog 9 = .str := by kernel_rfl
theorem sz9 : szOf Try.prog 9 = 1 := by kernel_rfl
theorem by9 : byOf Try.prog 9 = 16 := by kernel_rfl
theorem zv9 : zv Try.prog 9 = some [Value.string { data := #[] }] := by kernel_rfl
theorem zsv9 : zsv Try.prog 9 = some (.v (Value.string { data := #[] })) := by kernel_rfl
theorem tk10 : tk Try.prog 10 = .str := by kernel_rfl
theorem sz10 : szOf Try.prog 10 = 1 := by kernel_rfl
theorem by10 : byOf Try.prog 10 = 16 := by kernel_rfl
theorem zv10 : zv Try.prog 10 = some [Value.string { data := #[] }] := by kernel_rfl
theorem zsv10 : zsv Try.prog 10 = some (.v (Value.string { data := #[] })) := by kernel_rfl
theorem tk11 : tk Try.prog 11 = .str := by kernel_rfl
theorem sz11 : szOf Try.prog 11 = 1 := by kernel_rfl
theorem by11 : byOf Try.prog 11 = 16 := by kernel_rfl
theorem zv11 : zv Try.prog 11 = some [Value.string { data := #[] }] := by kernel_rfl
theorem zsv11 : zsv Try.prog 11 = some (.v (Value.string { data := #[] })) := by kernel_rfl
theorem tk12 : tk Try.prog 12 = .int .u64 := by kernel_rfl
theorem sz12 : szOf Try.prog 12 = 1 := by kernel_rfl
theorem by12 : byOf Try.prog 12 = 8 := by kernel_rfl
theorem zv12 : zv Try.prog 12 = some [Value.int IntKind.u64 0] := by kernel_rfl
theorem zsv12 : zsv Try.prog 12 = some (.v (Value.int IntKind.u64 0)) := by kernel_rfl
theorem tk13 : tk Try.prog 13 = .st 2 := by kernel_rfl
theorem sz13 : szOf Try.prog 13 = 2 := by kernel_rfl
theorem by13 : byOf Try.prog 13 = 24 := by kernel_rfl
theorem zv13 : zv Try.prog 13 = some [Value.string { data := #[] }, Value.int IntKind.u64 0] := by kernel_rfl
theorem zsv13 : zsv Try.prog 13 = some (.agg [.v (Value.string { data := #[] }), .v (Value.int IntKind.u64 0)]) := by kernel_rfl
theorem fd13x0 : fd Try.prog 13 0 = some (0, 9) := by kernel_rfl
theorem fd13x1 : fd Try.prog 13 1 = some (1, 12) := by kernel_rfl
theorem bp13 : bplace Try.prog 13 = some [(0, 1), (1, 1)] := by kernel_rfl
theorem tk14 : tk Try.prog 14 = .st 2 := by kernel_rfl
theorem sz14 : szOf Try.prog 14 = 2 := by kernel_rfl
theorem by14 : byOf Try.prog 14 = 24 := by kernel_rfl
theorem zv14 : zv Try.prog 14 = some [Value.string { data := #[] }, Value.int IntKind.u64 0] := by kernel_rfl
theorem zsv14 : zsv Try.prog 14 = some (.agg [.v (Value.string { data := #[] }), .v (Value.int IntKind.u64 0)]) := by kernel_rfl
theorem fd14x0 : fd Try.prog 14 0 = some (0, 9) := by kernel_rfl
theorem fd14x1 : fd Try.prog 14 1 = some (1, 12) := by kernel_rfl
theorem bp14 : bplace Try.prog 14 = some [(0, 1), (1, 1)] := by kernel_rfl
theorem tk15 : tk Try.prog 15 = .ptr 106 := by kernel_rfl
theorem sz15 : szOf Try.prog 15 = 1 := by kernel_rfl
theorem by15 : byOf Try.prog 15 = 8 := by kernel_rfl
theorem zv15 : zv Try.prog 15 = some [Value.pointer none] := by kernel_rfl
theorem zsv15 : zsv Try.prog 15 = some (.v (Value.pointer none)) := by kernel_rfl
theorem tk16 : tk Try.prog 16 = .ptr 109 := by kernel_rfl
theorem sz16 : szOf Try.prog 16 = 1 := by kernel_rfl
theorem by16 : byOf Try.prog 16 = 8 := by kernel_rfl
theorem zv16 : zv Try.prog 16 = some [Value.pointer none] := by kernel_rfl
theorem zsv16 : zsv Try.prog 16 = some (.v (Value.pointer none)) := by kernel_rfl
theorem tk17 : tk Try.prog 17 = .ptr 118 := by kernel_rfl
theorem sz17 : szOf Try.prog 17 = 1 := by kernel_rfl
theorem by17 : byOf Try.prog 17 = 8 := by kernel_rfl
theorem zv17 : zv Try.prog 17 = some [Value.pointer none] := by kernel_rfl
theorem zsv17 : zsv Try.prog 17 = some (.v (Value.pointer none)) := by kernel_rfl
theorem tk18 : tk Try.prog 18 = .st 1 := by kernel_rfl
theorem sz18 : szOf Try.prog 18 = 1 := by kernel_rfl
theorem by18 : byOf Try.prog 18 = 8 := by kernel_rfl
theorem zv18 : zv Try.prog 18 = some [Value.pointer none] := by kernel_rfl
theorem zsv18 : zsv Try.prog 18 = some (.agg [.v (Value.pointer none)]) := by kernel_rfl
theorem fd18x0 : fd Try.prog 18 0 = some (0, 17) := by kernel_rfl
theorem bp18 : bplace Try.prog 18 = some [(0, 1)] := by kernel_rfl
theorem tk19 : tk Try.prog 19 = .st 1 := by kernel_rfl
theorem sz19 : szOf Try.prog 19 = 1 := by kernel_rfl
theorem by19 : byOf Try.prog 19 = 8 := by kernel_rfl
theorem zv19 : zv Try.prog 19 = some [Value.pointer none] := by kernel_rfl
theorem zsv19 : zsv Try.prog 19 = some (.agg [.v (Value.pointer none)]) := by kernel_rfl
theorem fd19x0 : fd Try.prog 19 0 = some (0, 17) := by kernel_rfl
theorem bp19 : bplace Try.prog 19 = some [(0, 1)] := by kernel_rfl
theorem tk20 : tk Try.prog 20 = .ifc := by kernel_rfl
theorem sz20 : szOf Try.prog 20 = 1 := by kernel_rfl
theorem by20 : byOf Try.prog 20 = 16 := by kernel_rfl
theorem zv20 : zv Try.prog 20 = some [Value.nilIface] := by kernel_rfl
theorem zsv20 : zsv Try.prog 20 = some (.v (Value.nilIface)) := by kernel_rfl
theorem tk21 : tk Try.prog 21 = .int .i32 := by kernel_rfl
theorem sz21 : szOf Try.prog 21 = 1 := by kernel_rfl
theorem by21 : byOf Try.prog 21 = 4 := by kernel_rfl
theorem zv21 : zv Try.prog 21 = some [Value.int IntKind.i32 0] := by kernel_rfl
theorem zsv21 : zsv Try.prog 21 = some (.v (Value.int IntKind.i32 0)) := by kernel_rfl
theorem tk22 : tk Try.prog 22 = .sl 41 7 := by kernel_rfl
theorem sz22 : szOf Try.prog 22 = 1 := by kernel_rfl
theorem by22 : byOf Try.prog 22 = 24 := by kernel_rfl
theorem zv22 : zv Try.prog 22 = some [Value.slice none 0 0] := by kernel_rfl
theorem zsv22 : zsv Try.prog 22 = some (.v (Value.slice none 0 0)) := by kernel_rfl
theorem tk23 : tk Try.prog 23 = .fn := by kernel_rfl
theorem sz23 : szOf Try.prog 23 = 1 := by kernel_rfl
theorem by23 : byOf Try.prog 23 = 8 := by kernel_rfl
theorem zv23 : zv Try.prog 23 = some [Value.nilFunc] := by kernel_rfl
theorem zsv23 : zsv Try.prog 23 = some (.v (Value.nilFunc)) := by kernel_rfl
theorem tk24 : tk Try.prog 24 = .fn := by kernel_rfl
theorem sz24 : szOf Try.prog 24 = 1 := by kernel_rfl
theorem by24 : byOf Try.prog 24 = 8 := by kernel_rfl
theorem zv24 : zv Try.prog 24 = some [Value.nilFunc] := by kernel_rfl
theorem zsv24 : zsv Try.prog 24 = some (.v (Value.nilFunc)) := by kernel_rfl
theorem tk25 : tk Try.prog 25 = .sl 35 7 := by kernel_rfl
theorem sz25 : szOf Try.prog 25 = 1 := by kernel_rfl
theorem by25 : byOf Try.prog 25 = 24 := by kernel_rfl
theorem zv25 : zv Try.prog 25 = some [Value.slice none 0 0] := by kernel_rfl
theorem zsv25 : zsv Try.prog 25 = some (.v (Value.slice none 0 0)) := by kernel_rfl
theorem tk26 : tk Try.prog 26 = .fn := by kernel_rfl
theorem sz26 : szOf Try.prog 26 = 1 := by kernel_rfl
theorem by26 : byOf Try.prog 26 = 8 := by kernel_rfl
theorem zv26 : zv Try.prog 26 = some [Value.nilFunc] := by kernel_rfl
theorem zsv26 : zsv Try.prog 26 = some (.v (Value.nilFunc)) := by kernel_rfl
theorem tk27 : tk Try.prog 27 = .fn := by kernel_rfl
theorem sz27 : szOf Try.prog 27 = 1 := by kernel_rfl
theorem by27 : byOf Try.prog 27 = 8 := by kernel_rfl
theorem zv27 : zv Try.prog 27 = some [Value.nilFunc] := by kernel_rfl
theorem zsv27 : zsv Try.prog 27 = some (.v (Value.nilFunc)) := by kernel_rfl
theorem tk28 : tk Try.prog 28 = .st 2 := by kernel_rfl
theorem sz28 : szOf Try.prog 28 = 2 := by kernel_rfl
theorem by28 : byOf Try.prog 28 = 16 := by kernel_rfl
theorem zv28 : zv Try.prog 28 = some [Value.int IntKind.i64 0, Value.int IntKind.i64 0] := by kernel_rfl
theorem zsv28 : zsv Try.prog 28 = some (.agg [.v (Value.int IntKind.i64 0), .v (Value.int IntKind.i64 0)]) := by kernel_rfl
theorem fd28x0 : fd Try.prog 28 0 = some (0, 3) := by kernel_rfl
theorem fd28x1 : fd Try.prog 28 1 = some (1, 3) := by kernel_rfl
theorem bp28 : bplace Try.prog 28 = some [(0, 1), (1, 1)] := by kernel_rfl
theorem tk29 : tk Try.prog 29 = .st 2 := by kernel_rfl
theorem sz29 : szOf Try.prog 29 = 2 := by kernel_rfl
theorem by29 : byOf Try.prog 29 = 16 := by kernel_rfl
theorem zv29 : zv Try.prog 29 = some [Value.int IntKind.i64 0, Value.int IntKind.i64 0] := by kernel_rfl
theorem zsv29 : zsv Try.prog 29 = some (.agg [.v (Value.int IntKind.i64 0), .v (Value.int IntKind.i64 0)]) := by kernel_rfl
theorem fd29x0 : fd Try.prog 29 0 = some (0, 3) := by kernel_rfl
theorem fd29x1 : fd Try.prog 29 1 = some (1, 3) := by kernel_rfl
theorem bp29 : bplace Try.prog 29 = some [(0, 1), (1, 1)] := by kernel_rfl
theorem tk30 : tk Try.prog 30 = .st 2 := by kernel_rfl
theorem sz30 : szOf Try.prog 30 = 2 := by kernel_rfl
theorem by30 : byOf Try.prog 30 = 16 := by kernel_rfl
theorem zv30 : zv Try.prog 30 = some [Value.int IntKind.i64 0, Value.int IntKind.i64 0] := by kernel_rfl
theorem zsv30 : zsv Try.prog 30 = some (.agg [.v (Value.int IntKind.i64 0), .v (Value.int IntKind.i64 0)]) := by kernel_rfl
theorem fd30x0 : fd Try.prog 30 0 = some (0, 3) := by kernel_rfl
theorem fd30x1 : fd Try.prog 30 1 = some (1, 3) := by kernel_rfl
theorem bp30 : bplace Try.prog 30 = some [(0, 1), (1, 1)] := by kernel_rfl
theorem tk31 : tk Try.prog 31 = .st 2 := by kernel_rfl
theorem sz31 : szOf Try.prog 31 = 2 := by kernel_rfl
theorem by31 : byOf Try.prog 31 = 16 := by kernel_rfl
theorem zv31 : zv Try.prog 31 = some [Value.int IntKind.i64 0, Value.int IntKind.i64 0] := by kernel_rfl
theorem zsv31 : zsv Try.prog 31 = some (.agg [.v (Value.int IntKind.i64 0), .v (Value.int IntKind.i64 0)]) := by kernel_rfl
theorem fd31x0 : fd Try.prog 31 0 = some (0, 3) := by kernel_rfl
theorem fd31x1 : fd Try.prog 31 1 = some (1, 3) := by kernel_rfl
theorem bp31 : bplace Try.prog 31 = some [(0, 1), (1, 1)] := by kernel_rfl
theorem tk32 : tk Try.prog 32 = .sl 46 4 := by kernel_rfl
theorem sz32 : szOf Try.prog 32 = 1 := by kernel_rfl
theorem by32 : byOf Try.prog 32 = 24 := by kernel_rfl
theorem zv32 : zv Try.prog 32 = some [Value.slice none 0 0] := by kernel_rfl
theorem zsv32 : zsv Try.prog 32 = some (.v (Value.slice none 0 0)) := by kernel_rfl
theorem tk33 : tk Try.prog 33 = .sl 38 2 := by kernel_rfl
theorem sz33 : szOf Try.prog 33 = 1 := by kernel_rfl
theorem by33 : byOf Try.prog 33 = 24 := by kernel_rfl
theorem zv33 : zv Try.prog 33 = some [Value.slice none 0 0] := by kernel_rfl
theorem zsv33 : zsv Try.prog 33 = some (.v (Value.slice none 0 0)) := by kernel_rfl
theorem tk34 : tk Try.prog 34 = .st 7 := by kernel_rfl
theorem sz34 : szOf Try.prog 34 = 7 := by kernel_rfl
theorem by34 : byOf Try.prog 34 = 88 := by kernel_rfl
theorem zv34 : zv Try.prog 34 = some [Value.int IntKind.i64 0, Value.int IntKind.i64 0, Value.int IntKind.i64 0, Value.int IntKind.i64 0, Value.slice none 0 0, Value.slice none 0 0, Value.int IntKind.i64 0] := by kernel_rfl
theorem zsv34 : zsv Try.prog 34 = some (.agg [.v (Value.int IntKind.i64 0), .v (Value.int IntKind.i64 0), .v (Value.int IntKind.i64 0), .v (Value.int IntKind.i64 0), .v (Value.slice none 0 0), .v (Value.slice none 0 0), .v (Value.int IntKind.i64 0)]) := by kernel_rfl
theorem fd34x0 : fd Try.prog 34 0 = some (0, 29) := by kernel_rfl
theorem fd34x1 : fd Try.prog 34 1 = some (2, 31) := by kernel_rfl
theorem fd34x2 : fd Try.prog 34 2 = some (4, 32) := by kernel_rfl
theorem fd34x3 : fd Try.prog 34 3 = some (5, 33) := by kernel_rfl
theorem fd34x4 : fd Try.prog 34 4 = some (6, 3) := by kernel_rfl
theorem bp34 : bplace Try.prog 34 = some [(0, 2), (2, 2), (4, 1), (5, 1), (6, 1)] := by kernel_rfl
theorem tk35 : tk Try.prog 35 = .st 7 := by kernel_rfl
theorem sz35 : szOf Try.prog 35 = 7 := by kernel_rfl
theorem by35 : byOf Try.prog 35 = 88 := by kernel_rfl
theorem zv35 : zv Try.prog 35 = some [Value.int IntKind.i64 0, Value.int IntKind.i64 0, Value.int IntKind.i64 0, Value.int IntKind.i64 0, Value.slice none 0 0, Value.slice none 0 0, Value.int IntKind.i64 0] := by kernel_rfl
theorem zsv35 : zsv Try.prog 35 = some (.agg [.v (Value.int IntKind.i64 0), .v (Value.int IntKind.i64 0), .v (Value.int IntKind.i64 0), .v (Value.int IntKind.i64 0), .v (Value.slice none 0 0), .v (Value.slice none 0 0), .v (Value.int IntKind.i64 0)]) := by kernel_rfl
theorem fd35x0 : fd Try.prog 35 0 = some (0, 29) := by kernel_rfl
theorem fd35x1 : fd Try.prog 35 1 = some (2, 31) := by kernel_rfl
theorem fd35x2 : fd Try.prog 35 2 = some (4, 32) := by kernel_rfl
theorem fd35x3 : fd Try.prog 35 3 = some (5, 33) := by kernel_rfl
theorem fd35x4 : fd Try.prog 35 4 = some (6, 3) := by kernel_rfl
theorem bp35 : bplace Try.prog 35 = some [(0, 2), (2, 2), (4, 1), (5, 1), (6, 1)] := by kernel_rfl
theorem tk36 : tk Try.prog 36 = .fn := by kernel_rfl
theorem sz36 : szOf Try.prog 36 = 1 := by kernel_rfl
theorem by36 : byOf Try.prog 36 = 8 := by kernel_rfl
theorem zv36 : zv Try.prog 36 = some [Value.nilFunc] := by kernel_rfl
theorem zsv36 : zsv Try.prog 36 = some (.v (Value.nilFunc)) := by kernel_rfl
theorem tk37 : tk Try.prog 37 = .st 2 := by kernel_rfl
theorem sz37 : szOf Try.prog 37 = 2 := by kernel_rfl
theorem by37 : byOf Try.prog 37 = 32 := by kernel_rfl
theorem zv37 : zv Try.prog 37 = some [Value.string { data := #[] }, Value.string { data := #[] }] := by kernel_rfl
theorem zsv37 : zsv Try.prog 37 = some (.agg [.v (Value.string { data := #[] }), .v (Value.string { data := #[] })]) := by kernel_rfl
theorem fd37x0 : fd Try.prog 37 0 = some (0, 9) := by kernel_rfl
theorem fd37x1 : fd Try.prog 37 1 = some (1, 9) := by kernel_rfl
theorem bp37 : bplace Try.prog 37 = some [(0, 1), (1, 1)] := by kernel_rfl
theorem tk38 : tk Try.prog 38 = .st 2 := by kernel_rfl
theorem sz38 : szOf Try.prog 38 = 2 := by kernel_rfl
theorem by38 : byOf Try.prog 38 = 32 := by kernel_rfl
theorem zv38 : zv Try.prog 38 = some [Value.string { data := #[] }, Value.string { data := #[] }] := by kernel_rfl
theorem zsv38 : zsv Try.prog 38 = some (.agg [.v (Value.string { data := #[] }), .v (Value.string { data := #[] })]) := by kernel_rfl
theorem fd38x0 : fd Try.prog 38 0 = some (0, 9) := by kernel_rfl
theorem fd38x1 : fd Try.prog 38 1 = some (1, 9) := by kernel_rfl
theorem bp38 : bplace Try.prog 38 = some [(0, 1), (1, 1)] := by kernel_rfl
theorem tk39 : tk Try.prog 39 = .sl 43 4 := by kernel_rfl
theorem sz39 : szOf Try.prog 39 = 1 := by kernel_rfl
theorem by39 : byOf Try.prog 39 = 24 := by kernel_rfl
theorem zv39 : zv Try.prog 39 = some [Value.slice none 0 0] := by kernel_rfl
theorem zsv39 : zsv Try.prog 39 = some (.v (Value.slice none 0 0)) := by kernel_rfl
theorem tk40 : tk Try.prog 40 = .st 7 := by kernel_rfl
theorem sz40 : szOf Try.prog 40 = 7 := by kernel_rfl
theorem by40 : byOf Try.prog 40 = 88 := by kernel_rfl
theorem zv40 : zv Try.prog 40 = some [Value.int IntKind.i64 0, Value.int IntKind.i64 0, Value.int IntKind.i64 0, Value.int IntKind.i64 0, Value.slice none 0 0, Value.slice none 0 0, Value.int IntKind.i64 0] := by kernel_rfl
theorem zsv40 : zsv Try.prog 40 = some (.agg [.v (Value.int IntKind.i64 0), .v (Value.int IntKind.i64 0), .v (Value.int IntKind.i64 0), .v (Value.int IntKind.i64 0), .v (Value.slice none 0 0), .v (Value.slice none 0 0), .v (Value.int IntKind.i64 0)]) := by kernel_rfl
theorem fd40x0 : fd Try.prog 40 0 = some (0, 29) := by kernel_rfl
theorem fd40x1 : fd Try.prog 40 1 = some (2, 31) := by kernel_rfl
theorem fd40x2 : fd Try.prog 40 2 = some (4, 39) := by kernel_rfl
theorem fd40x3 : fd Try.prog 40 3 = some (5, 33) := by kernel_rfl
theorem fd40x4 : fd Try.prog 40 4 = some (6, 3) := by kernel_rfl
theorem bp40 : bplace Try.prog 40 = some [(0, 2), (2, 2), (4, 1), (5, 1), (6, 1)] := by kernel_rfl
theorem tk41 : tk Try.prog 41 = .st 7 := by kernel_rfl
theorem sz41 : szOf Try.prog 41 = 7 := by kernel_rfl
theorem by41 : byOf Try.prog 41 = 88 := by kernel_rfl
theorem zv41 : zv Try.prog 41 = some [Value.int IntKind.i64 0, Value.int IntKind.i64 0, Value.int IntKind.i64 0, Value.int IntKind.i64 0, Value.slice none 0 0, Value.slice none 0 0, Value.int IntKind.i64 0] := by kernel_rfl
theorem zsv41 : zsv Try.prog 41 = some (.agg [.v (Value.int IntKind.i64 0), .v (Value.int IntKind.i64 0), .v (Value.int IntKind.i64 0), .v (Value.int IntKind.i64 0), .v (Value.slice none 0 0), .v (Value.slice none 0 0), .v (Value.int IntKind.i64 0)]) := by kernel_rfl
theorem fd41x0 : fd Try.prog 41 0 = some (0, 29) := by kernel_rfl
theorem fd41x1 : fd Try.prog 41 1 = some (2, 31) := by kernel_rfl
theorem fd41x2 : fd Try.prog 41 2 = some (4, 39) := by kernel_rfl
theorem fd41x3 : fd Try.prog 41 3 = some (5, 33) := by kernel_rfl
theorem fd41x4 : fd Try.prog 41 4 = some (6, 3) := by kernel_rfl
theorem bp41 : bplace Try.prog 41 = some [(0, 2), (2, 2), (4, 1), (5, 1), (6, 1)] := by kernel_rfl
theorem tk42 : tk Try.prog 42 = .st 4 := by kernel_rfl
theorem sz42 : szOf Try.prog 42 = 4 := by kernel_rfl
theorem by42 : byOf Try.prog 42 = 48 := by kernel_rfl
theorem zv42 : zv Try.prog 42 = some [Value.string { data := #[] }, Value.int IntKind.i64 0, Value.int IntKind.i64 0, Value.string { data := #[] }] := by kernel_rfl
theorem zsv42 : zsv Try.prog 42 = some (.agg [.v (Value.string { data := #[] }), .v (Value.int IntKind.i64 0), .v (Value.int IntKind.i64 0), .v (Value.string { data := #[] })]) := by kernel_rfl
theorem fd42x0 : fd Try.prog 42 0 = some (0, 9) := by kernel_rfl
theorem fd42x1 : fd Try.prog 42 1 = some (1, 31) := by kernel_rfl
theorem fd42x2 : fd Try.prog 42 2 = some (3, 9) := by kernel_rfl
theorem bp42 : bplace Try.prog 42 = some [(0, 1), (1, 2), (3, 1)] := by kernel_rfl
theorem tk43 : tk Try.prog 43 = .st 4 := by kernel_rfl
theorem sz43 : szOf Try.prog 43 = 4 := by kernel_rfl
theorem by43 : byOf Try.prog 43 = 48 := by kernel_rfl
theorem zv43 : zv Try.prog 43 = some [Value.string { data := #[] }, Value.int IntKind.i64 0, Value.int IntKind.i64 0, Value.string { data := #[] }] := by kernel_rfl
theorem zsv43 : zsv Try.prog 43 = some (.agg [.v (Value.string { data := #[] }), .v (Value.int IntKind.i64 0), .v (Value.int IntKind.i64 0), .v (Value.string { data := #[] })]) := by kernel_rfl
theorem fd43x0 : fd Try.prog 43 0 = some (0, 9) := by kernel_rfl
theorem fd43x1 : fd Try.prog 43 1 = some (1, 31) := by kernel_rfl
theorem fd43x2 : fd Try.prog 43 2 = some (3, 9) := by kernel_rfl
theorem bp43 : bplace Try.prog 43 = some [(0, 1), (1, 2), (3, 1)] := by kernel_rfl
theorem tk44 : tk Try.prog 44 = .other := by kernel_rfl
theorem sz44 : szOf Try.prog 44 = 1 := by kernel_rfl
theorem by44 : byOf Try.prog 44 = 0 := by kernel_rfl
theorem zv44 : zv Try.prog 44 = some [Value.tuple #[Value.agg #[Value.int IntKind.i64 0, Value.int IntKind.i64 0], Value.string { data := #[] }]] := by kernel_rfl
theorem zsv44 : zsv Try.prog 44 = some (.v (Value.tuple #[Value.agg #[Value.int IntKind.i64 0, Value.int IntKind.i64 0], Value.string { data := #[] }])) := by kernel_rfl
theorem tk45 : tk Try.prog 45 = .fn := by kernel_rfl
theorem sz45 : szOf Try.prog 45 = 1 := by kernel_rfl
theorem by45 : byOf Try.prog 45 = 8 := by kernel_rfl
theorem zv45 : zv Try.prog 45 = some [Value.nilFunc] := by kernel_rfl
theorem zsv45 : zsv Try.prog 45 = some (.v (Value.nilFunc)) := by kernel_rfl
theorem tk46 : tk Try.prog 46 = .st 4 := by kernel_rfl
theorem sz46 : szOf Try.prog 46 = 4 := by kernel_rfl
theorem by46 : byOf Try.prog 46 = 48 := by kernel_rfl
theorem zv46 : zv Try.prog 46 = some [Value.string { data := #[] }, Value.int IntKind.i64 0, Value.int IntKind.i64 0, Value.string { data := #[] }] := by kernel_rfl
theorem zsv46 : zsv Try.prog 46 = some (.agg [.v (Value.string { data := #[] }), .v (Value.int IntKind.i64 0), .v (Value.int IntKind.i64 0), .v (Value.string { data := #[] })]) := by kernel_rfl
theorem fd46x0 : fd Try.prog 46 0 = some (0, 9) := by kernel_rfl
theorem fd46x1 : fd Try.prog 46 1 = some (1, 31) := by kernel_rfl
theorem fd46x2 : fd Try.prog 46 2 = some (3, 9) := by kernel_rfl
theorem bp46 : bplace Try.prog 46 = some [(0, 1), (1, 2), (3, 1)] := by kernel_rfl
theorem tk47 : tk Try.prog 47 = .fn := by kernel_rfl
theorem sz47 : szOf Try.prog 47 = 1 := by kernel_rfl
theorem by47 : byOf Try.prog 47 = 8 := by kernel_rfl
theorem zv47 : zv Try.prog 47 = some [Value.nilFunc] := by kernel_rfl
theorem zsv47 : zsv Try.prog 47 = some (.v (Value.nilFunc)) := by kernel_rfl
theorem tk48 : tk Try.prog 48 = .int .i64 := by kernel_rfl
theorem sz48 : szOf Try.prog 48 = 1 := by kernel_rfl
theorem by48 : byOf Try.prog 48 = 8 := by kernel_rfl
theorem zv48 : zv Try.prog 48 = some [Value.int IntKind.i64 0] := by kernel_rfl
theorem zsv48 : zsv Try.prog 48 = some (.v (Value.int IntKind.i64 0)) := by kernel_rfl
theorem tk49 : tk Try.prog 49 = .other := by kernel_rfl
theorem sz49 : szOf Try.prog 49 = 1 := by kernel_rfl
theorem by49 : byOf Try.prog 49 = 0 := by kernel_rfl
theorem zv49 : zv Try.prog 49 = some [Value.tuple #[Value.int IntKind.i64 0, Value.int IntKind.i64 0]] := by kernel_rfl
theorem zsv49 : zsv Try.prog 49 = some (.v (Value.tuple #[Value.int IntKind.i64 0, Value.int IntKind.i64 0])) := by kernel_rfl
theorem tk50 : tk Try.prog 50 = .fn := by kernel_rfl
theorem sz50 : szOf Try.prog 50 = 1 := by kernel_rfl
theorem by50 : byOf Try.prog 50 = 8 := by kernel_rfl
theorem zv50 : zv Try.prog 50 = some [Value.nilFunc] := by kernel_rfl
theorem zsv50 : zsv Try.prog 50 = some (.v (Value.nilFunc)) := by kernel_rfl
theorem tk51 : tk Try.prog 51 = .fn := by kernel_rfl
theorem sz51 : szOf Try.prog 51 = 1 := by kernel_rfl
theorem by51 : byOf Try.prog 51 = 8 := by kernel_rfl
theorem zv51 : zv Try.prog 51 = some [Value.nilFunc] := by kernel_rfl
theorem zsv51 : zsv Try.prog 51 = some (.v (Value.nilFunc)) := by kernel_rfl
theorem tk52 : tk Try.prog 52 = .fn := by kernel_rfl
theorem sz52 : szOf Try.prog 52 = 1 := by kernel_rfl
theorem by52 : byOf Try.prog 52 = 8 := by kernel_rfl
theorem zv52 : zv Try.prog 52 = some [Value.nilFunc] := by kernel_rfl
theorem zsv52 : zsv Try.prog 52 = some (.v (Value.nilFunc)) := by kernel_rfl
theorem tk53 : tk Try.prog 53 = .fn := by kernel_rfl
theorem sz53 : szOf Try.prog 53 = 1 := by kernel_rfl
theorem by53 : byOf Try.prog 53 = 8 := by kernel_rfl
theorem zv53 : zv Try.prog 53 = some [Value.nilFunc] := by kernel_rfl
theorem zsv53 : zsv Try.prog 53 = some (.v (Value.nilFunc)) := by kernel_rfl
theorem tk54 : tk Try.prog 54 = .fn := by kernel_rfl
theorem sz54 : szOf Try.prog 54 = 1 := by kernel_rfl
theorem by54 : byOf Try.prog 54 = 8 := by kernel_rfl
theorem zv54 : zv Try.prog 54 = some [Value.nilFunc] := by kernel_rfl
theorem zsv54 : zsv Try.prog 54 = some (.v (Value.nilFunc)) := by kernel_rfl
theorem tk55 : tk Try.prog 55 = .fn := by kernel_rfl
theorem sz55 : szOf Try.prog 55 = 1 := by kernel_rfl
theorem by55 : byOf Try.prog 55 = 8 := by kernel_rfl
theorem zv55 : zv Try.prog 55 = some [Value.nilFunc] := by kernel_rfl
theorem zsv55 : zsv Try.prog 55 = some (.v (Value.nilFunc)) := by kernel_rfl
theorem tk56 : tk Try.prog 56 = .fn := by kernel_rfl
theorem sz56 : szOf Try.prog 56 = 1 := by kernel_rfl
theorem by56 : byOf Try.prog 56 = 8 := by kernel_rfl
theorem zv56 : zv Try.prog 56 = some [Value.nilFunc] := by kernel_rfl
theorem zsv56 : zsv Try.prog 56 = some (.v (Value.nilFunc)) := by kernel_rfl
theorem tk57 : tk Try.prog 57 = .fn := by kernel_rfl
theorem sz57 : szOf Try.prog 57 = 1 := by kernel_rfl
theorem by57 : byOf Try.prog 57 = 8 := by kernel_rfl
theorem zv57 : zv Try.prog 57 = some [Value.nilFunc] := by kernel_rfl
theorem zsv57 : zsv Try.prog 57 = some (.v (Value.nilFunc)) := by kernel_rfl
theorem tk58 : tk Try.prog 58 = .fn := by kernel_rfl
theorem sz58 : szOf Try.prog 58 = 1 := by kernel_rfl
theorem by58 : byOf Try.prog 58 = 8 := by kernel_rfl
theorem zv58 : zv Try.prog 58 = some [Value.nilFunc] := by kernel_rfl
theorem zsv58 : zsv Try.prog 58 = some (.v (Value.nilFunc)) := by kernel_rfl
theorem tk59 : tk Try.prog 59 = .fn := by kernel_rfl
theorem sz59 : szOf Try.prog 59 = 1 := by kernel_rfl
theorem by59 : byOf Try.prog 59 = 8 := by kernel_rfl
theorem zv59 : zv Try.prog 59 = some [Value.nilFunc] := by kernel_rfl
theorem zsv59 : zsv Try.prog 59 = some (.v (Value.nilFunc)) := by kernel_rfl
theorem tk60 : tk Try.prog 60 = .fn := by kernel_rfl
theorem sz60 : szOf Try.prog 60 = 1 := by kernel_rfl
theorem by60 : byOf Try.prog 60 = 8 := by kernel_rfl
theorem zv60 : zv Try.prog 60 = some [Value.nilFunc] := by kernel_rfl
theorem zsv60 : zsv Try.prog 60 = some (.v (Value.nilFunc)) := by kernel_rfl
theorem tk61 : tk Try.prog 61 = .fn := by kernel_rfl
theorem sz61 : szOf Try.prog 61 = 1 := by kernel_rfl
theorem by61 : byOf Try.prog 61 = 8 := by kernel_rfl
theorem zv61 : zv Try.prog 61 = some [Value.nilFunc] := by kernel_rfl
theorem zsv61 : zsv Try.prog 61 = some (.v (Value.nilFunc)) := by kernel_rfl
theorem tk62 : tk Try.prog 62 = .fn := by kernel_rfl
theorem sz62 : szOf Try.prog 62 = 1 := by kernel_rfl
theorem by62 : byOf Try.prog 62 = 8 := by kernel_rfl
theorem zv62 : zv Try.prog 62 = some [Value.nilFunc] := by kernel_rfl
theorem zsv62 : zsv Try.prog 62 = some (.v (Value.nilFunc)) := by kernel_rfl
theorem tk63 : tk Try.prog 63 = .fn := by kernel_rfl
theorem sz63 : szOf Try.prog 63 = 1 := by kernel_rfl
theorem by63 : byOf Try.prog 63 = 8 := by kernel_rfl
theorem zv63 : zv Try.prog 63 = some [Value.nilFunc] := by kernel_rfl
theorem zsv63 : zsv Try.prog 63 = some (.v (Value.nilFunc)) := by kernel_rfl
theorem tk64 : tk Try.prog 64 = .fn := by kernel_rfl
theorem sz64 : szOf Try.prog 64 = 1 := by kernel_rfl
theorem by64 : byOf Try.prog 64 = 8 := by kernel_rfl
theorem zv64 : zv Try.prog 64 = some [Value.nilFunc] := by kernel_rfl
theorem zsv64 : zsv Try.prog 64 = some (.v (Value.nilFunc)) := by kernel_rfl
theorem tk65 : tk Try.prog 65 = .fn := by kernel_rfl
theorem sz65 : szOf Try.prog 65 = 1 := by kernel_rfl
theorem by65 : byOf Try.prog 65 = 8 := by kernel_rfl
theorem zv65 : zv Try.prog 65 = some [Value.nilFunc] := by kernel_rfl
theorem zsv65 : zsv Try.prog 65 = some (.v (Value.nilFunc)) := by kernel_rfl
theorem tk66 : tk Try.prog 66 = .sl 9 1 := by kernel_rfl
theorem sz66 : szOf Try.prog 66 = 1 := by kernel_rfl
theorem by66 : byOf Try.prog 66 = 24 := by kernel_rfl
theorem zv66 : zv Try.prog 66 = some [Value.slice none 0 0] := by kernel_rfl
theorem zsv66 : zsv Try.prog 66 = some (.v (Value.slice none 0 0)) := by kernel_rfl
theorem tk67 : tk Try.prog 67 = .fn := by kernel_rfl
theorem sz67 : szOf Try.prog 67 = 1 := by kernel_rfl
theorem by67 : byOf Try.prog 67 = 8 := by kernel_rfl
theorem zv67 : zv Try.prog 67 = some [Value.nilFunc] := by kernel_rfl
theorem zsv67 : zsv Try.prog 67 = some (.v (Value.nilFunc)) := by kernel_rfl
theorem tk68 : tk Try.prog 68 = .fn := by kernel_rfl
theorem sz68 : szOf Try.prog 68 = 1 := by kernel_rfl
theorem by68 : byOf Try.prog 68 = 8 := by kernel_rfl
theorem zv68 : zv Try.prog 68 = some [Value.nilFunc] := by kernel_rfl
theorem zsv68 : zsv Try.prog 68 = some (.v (Value.nilFunc)) := by kernel_rfl
theorem tk69 : tk Try.prog 69 = .mp 9 9 := by kernel_rfl
theorem sz69 : szOf Try.prog 69 = 1 := by kernel_rfl
theorem by69 : byOf Try.prog 69 = 8 := by kernel_rfl
theorem zv69 : zv Try.prog 69 = some [Value.map none] := by kernel_rfl
theorem zsv69 : zsv Try.prog 69 = some (.v (Value.map none)) := by kernel_rfl
theorem tk70 : tk Try.prog 70 = .fn := by kernel_rfl
theorem sz70 : szOf Try.prog 70 = 1 := by kernel_rfl
theorem by70 : byOf Try.prog 70 = 8 := by kernel_rfl
theorem zv70 : zv Try.prog 70 = some [Value.nilFunc] := by kernel_rfl
theorem zsv70 : zsv Try.prog 70 = some (.v (Value.nilFunc)) := by kernel_rfl
theorem tk71 : tk Try.prog 71 = .fn := by kernel_rfl
theorem sz71 : szOf Try.prog 71 = 1 := by kernel_rfl
theorem by71 : byOf Try.prog 71 = 8 := by kernel_rfl
theorem zv71 : zv Try.prog 71 = some [Value.nilFunc] := by kernel_rfl
theorem zsv71 : zsv Try.prog 71 = some (.v (Value.nilFunc)) := by kernel_rfl
theorem tk72 : tk Try.prog 72 = .fn := by kernel_rfl
theorem sz72 : szOf Try.prog 72 = 1 := by kernel_rfl
theorem by72 : byOf Try.prog 72 = 8 := by kernel_rfl
theorem zv72 : zv Try.prog 72 = some [Value.nilFunc] := by kernel_rfl
theorem zsv72 : zsv Try.prog 72 = some (.v (Value.nilFunc)) := by kernel_rfl
theorem tk73 : tk Try.prog 73 = .fn := by kernel_rfl
theorem sz73 : szOf Try.prog 73 = 1 := by kernel_rfl
theorem by73 : byOf Try.prog 73 = 8 := by kernel_rfl
theorem zv73 : zv Try.prog 73 = some [Value.nilFunc] := by kernel_rfl
theorem zsv73 : zsv Try.prog 73 = some (.v (Value.nilFunc)) := by kernel_rfl
theorem tk74 : tk Try.prog 74 = .fn := by kernel_rfl
theorem sz74 : szOf Try.prog 74 = 1 := by kernel_rfl
theorem by74 : byOf Try.prog 74 = 8 := by kernel_rfl
theorem zv74 : zv Try.prog 74 = some [Value.nilFunc] := by kernel_rfl
theorem zsv74 : zsv Try.prog 74 = some (.v (Value.nilFunc)) := by kernel_rfl
theorem tk75 : tk Try.prog 75 = .mp 29 3 := by kernel_rfl
theorem sz75 : szOf Try.prog 75 = 1 := by kernel_rfl
theorem by75 : byOf Try.prog 75 = 8 := by kernel_rfl
theorem zv75 : zv Try.prog 75 = some [Value.map none] := by kernel_rfl
theorem zsv75 : zsv Try.prog 75 = some (.v (Value.map none)) := by kernel_rfl
theorem tk76 : tk Try.prog 76 = .mp 31 3 := by kernel_rfl
theorem sz76 : szOf Try.prog 76 = 1 := by kernel_rfl
theorem by76 : byOf Try.prog 76 = 8 := by kernel_rfl
theorem zv76 : zv Try.prog 76 = some [Value.map none] := by kernel_rfl
theorem zsv76 : zsv Try.prog 76 = some (.v (Value.map none)) := by kernel_rfl
theorem tk77 : tk Try.prog 77 = .fn := by kernel_rfl
theorem sz77 : szOf Try.prog 77 = 1 := by kernel_rfl
theorem by77 : byOf Try.prog 77 = 8 := by kernel_rfl
theorem zv77 : zv Try.prog 77 = some [Value.nilFunc] := by kernel_rfl
theorem zsv77 : zsv Try.prog 77 = some (.v (Value.nilFunc)) := by kernel_rfl
theorem tk78 : tk Try.prog 78 = .fn := by kernel_rfl
theorem sz78 : szOf Try.prog 78 = 1 := by kernel_rfl
theorem by78 : byOf Try.prog 78 = 8 := by kernel_rfl
theorem zv78 : zv Try.prog 78 = some [Value.nilFunc] := by kernel_rfl
theorem zsv78 : zsv Try.prog 78 = some (.v (Value.nilFunc)) := by kernel_rfl
theorem tk79 : tk Try.prog 79 = .fn := by kernel_rfl
theorem sz79 : szOf Try.prog 79 = 1 := by kernel_rfl
theorem by79 : byOf Try.prog 79 = 8 := by kernel_rfl
theorem zv79 : zv Try.prog 79 = some [Value.nilFunc] := by kernel_rfl
theorem zsv79 : zsv Try.prog 79 = some (.v (Value.nilFunc)) := by kernel_rfl
theorem tk80 : tk Try.prog 80 = .int .u64 := by kernel_rfl
theorem sz80 : szOf Try.prog 80 = 1 := by kernel_rfl
theorem by80 : byOf Try.prog 80 = 8 := by kernel_rfl
theorem zv80 : zv Try.prog 80 = some [Value.int IntKind.u64 0] := by kernel_rfl
theorem zsv80 : zsv Try.prog 80 = some (.v (Value.int IntKind.u64 0)) := by kernel_rfl
theorem tk81 : tk Try.prog 81 = .fn := by kernel_rfl
theorem sz81 : szOf Try.prog 81 = 1 := by kernel_rfl
theorem by81 : byOf Try.prog 81 = 8 := by kernel_rfl
theorem zv81 : zv Try.prog 81 = some [Value.nilFunc] := by kernel_rfl
theorem zsv81 : zsv Try.prog 81 = some (.v (Value.nilFunc)) := by kernel_rfl
theorem tk82 : tk Try.prog 82 = .fn := by kernel_rfl
theorem sz82 : szOf Try.prog 82 = 1 := by kernel_rfl
theorem by82 : byOf Try.prog 82 = 8 := by kernel_rfl
theorem zv82 : zv Try.prog 82 = some [Value.nilFunc] := by kernel_rfl
theorem zsv82 : zsv Try.prog 82 = some (.v (Value.nilFunc)) := by kernel_rfl
theorem tk83 : tk Try.prog 83 = .fn := by kernel_rfl
theorem sz83 : szOf Try.prog 83 = 1 := by kernel_rfl
theorem by83 : byOf Try.prog 83 = 8 := by kernel_rfl
theorem zv83 : zv Try.prog 83 = some [Value.nilFunc] := by kernel_rfl
theorem zsv83 : zsv Try.prog 83 = some (.v (Value.nilFunc)) := by kernel_rfl
theorem tk84 : tk Try.prog 84 = .int .i64 := by kernel_rfl
theorem sz84 : szOf Try.prog 84 = 1 := by kernel_rfl
theorem by84 : byOf Try.prog 84 = 8 := by kernel_rfl
theorem zv84 : zv Try.prog 84 = some [Value.int IntKind.i64 0] := by kernel_rfl
theorem zsv84 : zsv Try.prog 84 = some (.v (Value.int IntKind.i64 0)) := by kernel_rfl
theorem tk85 : tk Try.prog 85 = .other := by kernel_rfl
theorem sz85 : szOf Try.prog 85 = 1 := by kernel_rfl
theorem by85 : byOf Try.prog 85 = 0 := by kernel_rfl
theorem zv85 : zv Try.prog 85 = some [Value.tuple #[Value.int IntKind.i64 0, Value.int IntKind.i64 0]] := by kernel_rfl
theorem zsv85 : zsv Try.prog 85 = some (.v (Value.tuple #[Value.int IntKind.i64 0, Value.int IntKind.i64 0])) := by kernel_rfl
theorem tk86 : tk Try.prog 86 = .fn := by kernel_rfl
theorem sz86 : szOf Try.prog 86 = 1 := by kernel_rfl
theorem by86 : byOf Try.prog 86 = 8 := by kernel_rfl
theorem zv86 : zv Try.prog 86 = some [Value.nilFunc] := by kernel_rfl
theorem zsv86 : zsv Try.prog 86 = some (.v (Value.nilFunc)) := by kernel_rfl
theorem tk87 : tk Try.prog 87 = .fn := by kernel_rfl
theorem sz87 : szOf Try.prog 87 = 1 := by kernel_rfl
theorem by87 : byOf Try.prog 87 = 8 := by kernel_rfl
theorem zv87 : zv Try.prog 87 = some [Value.nilFunc] := by kernel_rfl
theorem zsv87 : zsv Try.prog 87 = some (.v (Value.nilFunc)) := by kernel_rfl
theorem tk88 : tk Try.prog 88 = .fn := by kernel_rfl
theorem sz88 : szOf Try.prog 88 = 1 := by kernel_rfl
theorem by88 : byOf Try.prog 88 = 8 := by kernel_rfl
theorem zv88 : zv Try.prog 88 = some [Value.nilFunc] := by kernel_rfl
theorem zsv88 : zsv Try.prog 88 = some (.v (Value.nilFunc)) := by kernel_rfl
theorem tk89 : tk Try.prog 89 = .other := by kernel_rfl
theorem sz89 : szOf Try.prog 89 = 1 := by kernel_rfl
theorem by89 : byOf Try.prog 89 = 0 := by kernel_rfl
theorem zv89 : zv Try.prog 89 = some [Value.tuple #[Value.int IntKind.i64 0, Value.bool false]] := by kernel_rfl
theorem zsv89 : zsv Try.prog 89 = some (.v (Value.tuple #[Value.int IntKind.i64 0, Value.bool false])) := by kernel_rfl
theorem tk90 : tk Try.prog 90 = .fn := by kernel_rfl
theorem sz90 : szOf Try.prog 90 = 1 := by kernel_rfl
theorem by90 : byOf Try.prog 90 = 8 := by kernel_rfl
theorem zv90 : zv Try.prog 90 = some [Value.nilFunc] := by kernel_rfl
theorem zsv90 : zsv Try.prog 90 = some (.v (Value.nilFunc)) := by kernel_rfl
theorem tk91 : tk Try.prog 91 = .fn := by kernel_rfl
theorem sz91 : szOf Try.prog 91 = 1 := by kernel_rfl
theorem by91 : byOf Try.prog 91 = 8 := by kernel_rfl
theorem zv91 : zv Try.prog 91 = some [Value.nilFunc] := by kernel_rfl
theorem zsv91 : zsv Try.prog 91 = some (.v (Value.nilFunc)) := by kernel_rfl
theorem tk92 : tk Try.prog 92 = .int .u32 := by kernel_rfl
theorem sz92 : szOf Try.prog 92 = 1 := by kernel_rfl
theorem by92 : byOf Try.prog 92 = 4 := by kernel_rfl
theorem zv92 : zv Try.prog 92 = some [Value.int IntKind.u32 0] := by kernel_rfl
theorem zsv92 : zsv Try.prog 92 = some (.v (Value.int IntKind.u32 0)) := by kernel_rfl
theorem tk93 : tk Try.prog 93 = .fn := by kernel_rfl
theorem sz93 : szOf Try.prog 93 = 1 := by kernel_rfl
theorem by93 : byOf Try.prog 93 = 8 := by kernel_rfl
theorem zv93 : zv Try.prog 93 = some [Value.nilFunc] := by kernel_rfl
theorem zsv93 : zsv Try.prog 93 = some (.v (Value.nilFunc)) := by kernel_rfl
theorem tk94 : tk Try.prog 94 = .int .u64 := by kernel_rfl
theorem sz94 : szOf Try.prog 94 = 1 := by kernel_rfl
theorem by94 : byOf Try.prog 94 = 8 := by kernel_rfl
theorem zv94 : zv Try.prog 94 = some [Value.int IntKind.u64 0] := by kernel_rfl
theorem zsv94 : zsv Try.prog 94 = some (.v (Value.int IntKind.u64 0)) := by kernel_rfl
theorem tk95 : tk Try.prog 95 = .int .u64 := by kernel_rfl
theorem sz95 : szOf Try.prog 95 = 1 := by kernel_rfl
theorem by95 : byOf Try.prog 95 = 8 := by kernel_rfl
theorem zv95 : zv Try.prog 95 = some [Value.int IntKind.u64 0] := by kernel_rfl
theorem zsv95 : zsv Try.prog 95 = some (.v (Value.int IntKind.u64 0)) := by kernel_rfl
theorem tk96 : tk Try.prog 96 = .fn := by kernel_rfl
theorem sz96 : szOf Try.prog 96 = 1 := by kernel_rfl
theorem by96 : byOf Try.prog 96 = 8 := by kernel_rfl
theorem zv96 : zv Try.prog 96 = some [Value.nilFunc] := by kernel_rfl
theorem zsv96 : zsv Try.prog 96 = some (.v (Value.nilFunc)) := by kernel_rfl
theorem tk97 : tk Try.prog 97 = .fn := by kernel_rfl
theorem sz97 : szOf Try.prog 97 = 1 := by kernel_rfl
theorem by97 : byOf Try.prog 97 = 8 := by kernel_rfl
theorem zv97 : zv Try.prog 97 = some [Value.nilFunc] := by kernel_rfl
theorem zsv97 : zsv Try.prog 97 = some (.v (Value.nilFunc)) := by kernel_rfl
theorem tk98 : tk Try.prog 98 = .fn := by kernel_rfl
theorem sz98 : szOf Try.prog 98 = 1 := by kernel_rfl
theorem by98 : byOf Try.prog 98 = 8 := by kernel_rfl
theorem zv98 : zv Try.prog 98 = some [Value.nilFunc] := by kernel_rfl
theorem zsv98 : zsv Try.prog 98 = some (.v (Value.nilFunc)) := by kernel_rfl
theorem tk99 : tk Try.prog 99 = .ptr 3 := by kernel_rfl
theorem sz99 : szOf Try.prog 99 = 1 := by kernel_rfl
theorem by99 : byOf Try.prog 99 = 8 := by kernel_rfl
theorem zv99 : zv Try.prog 99 = some [Value.pointer none] := by kernel_rfl
theorem zsv99 : zsv Try.prog 99 = some (.v (Value.pointer none)) := by kernel_rfl
theorem tk100 : tk Try.prog 100 = .fn := by kernel_rfl
theorem sz100 : szOf Try.prog 100 = 1 := by kernel_rfl
theorem by100 : byOf Try.prog 100 = 8 := by kernel_rfl
theorem zv100 : zv Try.prog 100 = some [Value.nilFunc] := by kernel_rfl
theorem zsv100 : zsv Try.prog 100 = some (.v (Value.nilFunc)) := by kernel_rfl
theorem tk101 : tk Try.prog 101 = .ptr 95 := by kernel_rfl
theorem sz101 : szOf Try.prog 101 = 1 := by kernel_rfl
theorem by101 : byOf Try.prog 101 = 8 := by kernel_rfl
theorem zv101 : zv Try.prog 101 = some [Value.pointer none] := by kernel_rfl
theorem zsv101 : zsv Try.prog 101 = some (.v (Value.pointer none)) := by kernel_rfl
theorem tk102 : tk Try.prog 102 = .other := by kernel_rfl
theorem sz102 : szOf Try.prog 102 = 1 := by kernel_rfl
theorem by102 : byOf Try.prog 102 = 0 := by kernel_rfl
theorem zv102 : zv Try.prog 102 = some [Value.tuple #[Value.int IntKind.i64 0, Value.int IntKind.i64 0]] := by kernel_rfl
theorem zsv102 : zsv Try.prog 102 = some (.v (Value.tuple #[Value.int IntKind.i64 0, Value.int IntKind.i64 0])) := by kernel_rfl
theorem tk103 : tk Try.prog 103 = .fn := by kernel_rfl
theorem sz103 : szOf Try.prog 103 = 1 := by kernel_rfl
theorem by103 : byOf Try.prog 103 = 8 := by kernel_rfl
theorem zv103 : zv Try.prog 103 = some [Value.nilFunc] := by kernel_rfl
theorem zsv103 : zsv Try.prog 103 = some (.v (Value.nilFunc)) := by kernel_rfl
theorem tk104 : tk Try.prog 104 = .fn := by kernel_rfl
theorem sz104 : szOf Try.prog 104 = 1 := by kernel_rfl
theorem by104 : byOf Try.prog 104 = 8 := by kernel_rfl
theorem zv104 : zv Try.prog 104 = some [Value.nilFunc] := by kernel_rfl
theorem zsv104 : zsv Try.prog 104 = some (.v (Value.nilFunc)) := by kernel_rfl
theorem tk105 : tk Try.prog 105 = .st 4 := by kernel_rfl
theorem sz105 : szOf Try.prog 105 = 4 := by kernel_rfl
theorem by105 : byOf Try.prog 105 = 40 := by kernel_rfl
theorem zv105 : zv Try.prog 105 = some [Value.pointer none, Value.pointer none, Value.pointer none, Value.string { data := #[] }] := by kernel_rfl
theorem zsv105 : zsv Try.prog 105 = some (.agg [.v (Value.pointer none), .v (Value.pointer none), .v (Value.pointer none), .v (Value.string { data := #[] })]) := by kernel_rfl
theorem fd105x0 : fd Try.prog 105 0 = some (0, 17) := by kernel_rfl
theorem fd105x1 : fd Try.prog 105 1 = some (1, 17) := by kernel_rfl
theorem fd105x2 : fd Try.prog 105 2 = some (2, 17) := by kernel_rfl
theorem fd105x3 : fd Try.prog 105 3 = some (3, 9) := by kernel_rfl
theorem bp105 : bplace Try.prog 105 = some [(0, 1), (1, 1), (2, 1), (3, 1)] := by kernel_rfl
theorem tk106 : tk Try.prog 106 = .st 4 := by kernel_rfl
theorem sz106 : szOf Try.prog 106 = 4 := by kernel_rfl
theorem by106 : byOf Try.prog 106 = 40 := by kernel_rfl
theorem zv106 : zv Try.prog 106 = some [Value.pointer none, Value.pointer none, Value.pointer none, Value.string { data := #[] }] := by kernel_rfl
theorem zsv106 : zsv Try.prog 106 = some (.agg [.v (Value.pointer none), .v (Value.pointer none), .v (Value.pointer none), .v (Value.string { data := #[] })]) := by kernel_rfl
theorem fd106x0 : fd Try.prog 106 0 = some (0, 17) := by kernel_rfl
theorem fd106x1 : fd Try.prog 106 1 = some (1, 17) := by kernel_rfl
theorem fd106x2 : fd Try.prog 106 2 = some (2, 17) := by kernel_rfl
theorem fd106x3 : fd Try.prog 106 3 = some (3, 9) := by kernel_rfl
theorem bp106 : bplace Try.prog 106 = some [(0, 1), (1, 1), (2, 1), (3, 1)] := by kernel_rfl
theorem tk107 : tk Try.prog 107 = .arr 0 16 1 := by kernel_rfl
theorem sz107 : szOf Try.prog 107 = 0 := by kernel_rfl
theorem by107 : byOf Try.prog 107 = 0 := by kernel_rfl
theorem zv107 : zv Try.prog 107 = some [] := by kernel_rfl
theorem zsv107 : zsv Try.prog 107 = some (.agg []) := by kernel_rfl
theorem bp107 : bplace Try.prog 107 = some [] := by kernel_rfl
theorem tk108 : tk Try.prog 108 = .st 0 := by kernel_rfl
theorem sz108 : szOf Try.prog 108 = 0 := by kernel_rfl
theorem by108 : byOf Try.prog 108 = 0 := by kernel_rfl
theorem zv108 : zv Try.prog 108 = some [] := by kernel_rfl
theorem zsv108 : zsv Try.prog 108 = some (.agg []) := by kernel_rfl
theorem fd108x0 : fd Try.prog 108 0 = none := by kernel_rfl
theorem bp108 : bplace Try.prog 108 = some [(0, 0)] := by kernel_rfl
theorem tk109 : tk Try.prog 109 = .st 0 := by kernel_rfl
theorem sz109 : szOf Try.prog 109 = 0 := by kernel_rfl
theorem by109 : byOf Try.prog 109 = 0 := by kernel_rfl
theorem zv109 : zv Try.prog 109 = some [] := by kernel_rfl
theorem zsv109 : zsv Try.prog 109 = some (.agg []) := by kernel_rfl
theorem fd109x0 : fd Try.prog 109 0 = none := by kernel_rfl
theorem bp109 : bplace Try.prog 109 = some [(0, 0)] := by kernel_rfl
theorem tk110 : tk Try.prog 110 = .fn := by kernel_rfl
theorem sz110 : szOf Try.prog 110 = 1 := by kernel_rfl
theorem by110 : byOf Try.prog 110 = 8 := by kernel_rfl
theorem zv110 : zv Try.prog 110 = some [Value.nilFunc] := by kernel_rfl
theorem zsv110 : zsv Try.prog 110 = some (.v (Value.nilFunc)) := by kernel_rfl
theorem tk111 : tk Try.prog 111 = .int .u8 := by kernel_rfl
theorem sz111 : szOf Try.prog 111 = 1 := by kernel_rfl
theorem by111 : byOf Try.prog 111 = 1 := by kernel_rfl
theorem zv111 : zv Try.prog 111 = some [Value.int IntKind.u8 0] := by kernel_rfl
theorem zsv111 : zsv Try.prog 111 = some (.v (Value.int IntKind.u8 0)) := by kernel_rfl
theorem tk112 : tk Try.prog 112 = .int .u8 := by kernel_rfl
theorem sz112 : szOf Try.prog 112 = 1 := by kernel_rfl
theorem by112 : byOf Try.prog 112 = 1 := by kernel_rfl
theorem zv112 : zv Try.prog 112 = some [Value.int IntKind.u8 0] := by kernel_rfl
theorem zsv112 : zsv Try.prog 112 = some (.v (Value.int IntKind.u8 0)) := by kernel_rfl
theorem tk113 : tk Try.prog 113 = .fn := by kernel_rfl
theorem sz113 : szOf Try.prog 113 = 1 := by kernel_rfl
theorem by113 : byOf Try.prog 113 = 8 := by kernel_rfl
theorem zv113 : zv Try.prog 113 = some [Value.nilFunc] := by kernel_rfl
theorem zsv113 : zsv Try.prog 113 = some (.v (Value.nilFunc)) := by kernel_rfl
theorem tk114 : tk Try.prog 114 = .ptr 5 := by kernel_rfl
theorem sz114 : szOf Try.prog 114 = 1 := by kernel_rfl
theorem by114 : byOf Try.prog 114 = 8 := by kernel_rfl
theorem zv114 : zv Try.prog 114 = some [Value.pointer none] := by kernel_rfl
theorem zsv114 : zsv Try.prog 114 = some (.v (Value.pointer none)) := by kernel_rfl
theorem tk115 : tk Try.prog 115 = .int .i32 := by kernel_rfl
theorem sz115 : szOf Try.prog 115 = 1 := by kernel_rfl
theorem by115 : byOf Try.prog 115 = 4 := by kernel_rfl
theorem zv115 : zv Try.prog 115 = some [Value.int IntKind.i32 0] := by kernel_rfl
theorem zsv115 : zsv Try.prog 115 = some (.v (Value.int IntKind.i32 0)) := by kernel_rfl
theorem tk116 : tk Try.prog 116 = .int .i32 := by kernel_rfl
theorem sz116 : szOf Try.prog 116 = 1 := by kernel_rfl
theorem by116 : byOf Try.prog 116 = 4 := by kernel_rfl
theorem zv116 : zv Try.prog 116 = some [Value.int IntKind.i32 0] := by kernel_rfl
theorem zsv116 : zsv Try.prog 116 = some (.v (Value.int IntKind.i32 0)) := by kernel_rfl
theorem tk117 : tk Try.prog 117 = .st 11 := by kernel_rfl
theorem sz117 : szOf Try.prog 117 = 11 := by kernel_rfl
theorem by117 : byOf Try.prog 117 = 48 := by kernel_rfl
theorem zv117 : zv Try.prog 117 = some [Value.int IntKind.u64 0, Value.int IntKind.u64 0, Value.int IntKind.u32 0, Value.int IntKind.u8 0, Value.int IntKind.u8 0, Value.int IntKind.u8 0, Value.int IntKind.u8 0, Value.nilFunc, Value.pointer none, Value.int IntKind.i32 0, Value.int IntKind.i32 0] := by kernel_rfl
theorem zsv117 : zsv Try.prog 117 = some (.agg [.v (Value.int IntKind.u64 0), .v (Value.int IntKind.u64 0), .v (Value.int IntKind.u32 0), .v (Value.int IntKind.u8 0), .v (Value.int IntKind.u8 0), .v (Value.int IntKind.u8 0), .v (Value.int IntKind.u8 0), .v (Value.nilFunc), .v (Value.pointer none), .v (Value.int IntKind.i32 0), .v (Value.int IntKind.i32 0)]) := by kernel_rfl
theorem fd117x0 : fd Try.prog 117 0 = some (0, 12) := by kernel_rfl
theorem fd117x1 : fd Try.prog 117 1 = some (1, 12) := by kernel_rfl
theorem fd117x2 : fd Try.prog 117 2 = some (2, 92) := by kernel_rfl
theorem fd117x3 : fd Try.prog 117 3 = some (3, 111) := by kernel_rfl
theorem fd117x4 : fd Try.prog 117 4 = some (4, 5) := by kernel_rfl
theorem fd117x5 : fd Try.prog 117 5 = some (5, 5) := by kernel_rfl
theorem fd117x6 : fd Try.prog 117 6 = some (6, 112) := by kernel_rfl
theorem fd117x7 : fd Try.prog 117 7 = some (7, 113) := by kernel_rfl
theorem fd117x8 : fd Try.prog 117 8 = some (8, 114) := by kernel_rfl
theorem fd117x9 : fd Try.prog 117 9 = some (9, 115) := by kernel_rfl
theorem fd117x10 : fd Try.prog 117 10 = some (10, 116) := by kernel_rfl
theorem bp117 : bplace Try.prog 117 = some [(0, 1), (1, 1), (2, 1), (3, 1), (4, 1), (5, 1), (6, 1), (7, 1), (8, 1), (9, 1), (10, 1)] := by kernel_rfl
theorem tk118 : tk Try.prog 118 = .st 11 := by kernel_rfl
theorem sz118 : szOf Try.prog 118 = 11 := by kernel_rfl
theorem by118 : byOf Try.prog 118 = 48 := by kernel_rfl
theorem zv118 : zv Try.prog 118 = some [Value.int IntKind.u64 0, Value.int IntKind.u64 0, Value.int IntKind.u32 0, Value.int IntKind.u8 0, Value.int IntKind.u8 0, Value.int IntKind.u8 0, Value.int IntKind.u8 0, Value.nilFunc, Value.pointer none, Value.int IntKind.i32 0, Value.int IntKind.i32 0] := by kernel_rfl
theorem zsv118 : zsv Try.prog 118 = some (.agg [.v (Value.int IntKind.u64 0), .v (Value.int IntKind.u64 0), .v (Value.int IntKind.u32 0), .v (Value.int IntKind.u8 0), .v (Value.int IntKind.u8 0), .v (Value.int IntKind.u8 0), .v (Value.int IntKind.u8 0), .v (Value.nilFunc), .v (Value.pointer none), .v (Value.int IntKind.i32 0), .v (Value.int IntKind.i32 0)]) := by kernel_rfl
theorem fd118x0 : fd Try.prog 118 0 = some (0, 12) := by kernel_rfl
theorem fd118x1 : fd Try.prog 118 1 = some (1, 12) := by kernel_rfl
theorem fd118x2 : fd Try.prog 118 2 = some (2, 92) := by kernel_rfl
theorem fd118x3 : fd Try.prog 118 3 = some (3, 111) := by kernel_rfl
theorem fd118x4 : fd Try.prog 118 4 = some (4, 5) := by kernel_rfl
theorem fd118x5 : fd Try.prog 118 5 = some (5, 5) := by kernel_rfl
theorem fd118x6 : fd Try.prog 118 6 = some (6, 112) := by kernel_rfl
theorem fd118x7 : fd Try.prog 118 7 = some (7, 113) := by kernel_rfl
theorem fd118x8 : fd Try.prog 118 8 = some (8, 114) := by kernel_rfl
theorem fd118x9 : fd Try.prog 118 9 = some (9, 115) := by kernel_rfl
theorem fd118x10 : fd Try.prog 118 10 = some (10, 116) := by kernel_rfl
theorem bp118 : bplace Try.prog 118 = some [(0, 1), (1, 1), (2, 1), (3, 1), (4, 1), (5, 1), (6, 1), (7, 1), (8, 1), (9, 1), (10, 1)] := by kernel_rfl
theorem tk119 : tk Try.prog 119 = .other := by kernel_rfl
theorem sz119 : szOf Try.prog 119 = 1 := by kernel_rfl
theorem by119 : byOf Try.prog 119 = 8 := by kernel_rfl
theorem zv119 : zv Try.prog 119 = some [Value.pointer none] := by kernel_rfl
theorem zsv119 : zsv Try.prog 119 = some (.v (Value.pointer none)) := by kernel_rfl
theorem eqT29 : EqT Try.prog 29 [.i .i64, .i .i64] := EqT.flat (by kernel_rfl) (by kernel_rfl) (flatB_spec (by kernel_rfl)) (by kernel_rfl)
theorem key29 : KeyT Try.prog 29 fun v => ∃ us, v = .agg us.toArray ∧ LfVs [.i .i64, .i .i64] us := KeyT.flat (by kernel_rfl) (by kernel_rfl) (flatB_spec (by kernel_rfl))
theorem eqT31 : EqT Try.prog 31 [.i .i64, .i .i64] := EqT.flat (by kernel_rfl) (by kernel_rfl) (flatB_spec (by kernel_rfl)) (by kernel_rfl)
theorem key31 : KeyT Try.prog 31 fun v => ∃ us, v = .agg us.toArray ∧ LfVs [.i .i64, .i .i64] us := KeyT.flat (by kernel_rfl) (by kernel_rfl) (flatB_spec (by kernel_rfl))
theorem eqT38 : EqT Try.prog 38 [.s, .s] := EqT.flat (by kernel_rfl) (by kernel_rfl) (flatB_spec (by kernel_rfl)) (by kernel_rfl)
theorem key38 : KeyT Try.prog 38 fun v => ∃ us, v = .agg us.toArray ∧ LfVs [.s, .s] us := KeyT.flat (by kernel_rfl) (by kernel_rfl) (flatB_spec (by kernel_rfl))
theorem mixed : Try.prog.follows .mixedOrders = true := by kernel_rfl
theorem pf0 : Try.prog.funcs[0]? = some Try.f0 := by kernel_rfl
theorem pf1 : Try.prog.funcs[1]? = some Try.f1 := by kernel_rfl
theorem pf2 : Try.prog.funcs[2]? = some Try.f2 := by kernel_rfl
theorem pf3 : Try.prog.funcs[3]? = some Try.f3 := by kernel_rfl
theorem pf4 : Try.prog.funcs[4]? = some Try.f4 := by kernel_rfl
theorem pf5 : Try.prog.funcs[5]? = some Try.f5 := by kernel_rfl
theorem pf6 : Try.prog.funcs[6]? = some Try.f6 := by kernel_rfl
theorem pf7 : Try.prog.funcs[7]? = some Try.f7 := by kernel_rfl
theorem pf8 : Try.prog.funcs[8]? = some Try.f8 := by kernel_rfl
theorem pf9 : Try.prog.funcs[9]? = some Try.f9 := by kernel_rfl
theorem pf10 : Try.prog.funcs[10]? = some Try.f10 := by kernel_rfl
theorem pf11 : Try.prog.funcs[11]? = some Try.f11 := by kernel_rfl
theorem pf12 : Try.prog.funcs[12]? = some Try.f12 := by kernel_rfl
theorem pf13 : Try.prog.funcs[13]? = some Try.f13 := by kernel_rfl
theorem pf14 : Try.prog.funcs[14]? = some Try.f14 := by kernel_rfl
theorem pf15 : Try.prog.funcs[15]? = some Try.f15 := by kernel_rfl
theorem pf16 : Try.prog.funcs[16]? = some Try.f16 := by kernel_rfl
theorem pf17 : Try.prog.funcs[17]? = some Try.f17 := by kernel_rfl
theorem pf18 : Try.prog.funcs[18]? = some Try.f18 := by kernel_rfl
theorem pf19 : Try.prog.funcs[19]? = some Try.f19 := by kernel_rfl
theorem pf20 : Try.prog.funcs[20]? = some Try.f20 := by kernel_rfl
theorem pf21 : Try.prog.funcs[21]? = some Try.f21 := by kernel_rfl
theorem pf22 : Try.prog.funcs[22]? = some Try.f22 := by kernel_rfl
theorem pf23 : Try.prog.funcs[23]? = some Try.f23 := by kernel_rfl
theorem pf24 : Try.prog.funcs[24]? = some Try.f24 := by kernel_rfl
theorem pf25 : Try.prog.funcs[25]? = some Try.f25 := by kernel_rfl
theorem pf26 : Try.prog.funcs[26]? = some Try.f26 := by kernel_rfl
theorem pf27 : Try.prog.funcs[27]? = some Try.f27 := by kernel_rfl
theorem pf28 : Try.prog.funcs[28]? = some Try.f28 := by kernel_rfl
theorem pf29 : Try.prog.funcs[29]? = some Try.f29 := by kernel_rfl
theorem pf30 : Try.prog.funcs[30]? = some Try.f30 := by kernel_rfl
theorem pf31 : Try.prog.funcs[31]? = some Try.f31 := by kernel_rfl
theorem pf32 : Try.prog.funcs[32]? = some Try.f32 := by kernel_rfl
theorem pf33 : Try.prog.funcs[33]? = some Try.f33 := by kernel_rfl
theorem pf34 : Try.prog.funcs[34]? = some Try.f34 := by kernel_rfl
theorem pf35 : Try.prog.funcs[35]? = some Try.f35 := by kernel_rfl
theorem pf36 : Try.prog.funcs[36]? = some Try.f36 := by kernel_rfl
theorem pf37 : Try.prog.funcs[37]? = some Try.f37 := by kernel_rfl
theorem pf38 : Try.prog.funcs[38]? = some Try.f38 := by kernel_rfl
theorem pf39 : Try.prog.funcs[39]? = some Try.f39 := by kernel_rfl
theorem pf40 : Try.prog.funcs[40]? = some Try.f40 := by kernel_rfl
theorem pf41 : Try.prog.funcs[41]? = some Try.f41 := by kernel_rfl
theorem pf42 : Try.prog.funcs[42]? = some Try.f42 := by kernel_rfl
theorem pf43 : Try.prog.funcs[43]? = some Try.f43 := by kernel_rfl
theorem pf44 : Try.prog.funcs[44]? = some Try.f44 := by kernel_rfl
theorem pf45 : Try.prog.funcs[45]? = some Try.f45 := by kernel_rfl
theorem pf46 : Try.prog.funcs[46]? = some Try.f46 := by kernel_rfl
theorem pf47 : Try.prog.funcs[47]? = some Try.f47 := by kernel_rfl
theorem pf48 : Try.prog.funcs[48]? = some Try.f48 := by kernel_rfl
theorem pf49 : Try.prog.funcs[49]? = some Try.f49 := by kernel_rfl
theorem pf50 : Try.prog.funcs[50]? = some Try.f50 := by kernel_rfl
theorem pf51 : Try.prog.funcs[51]? = some Try.f51 := by kernel_rfl
theorem pf52 : Try.prog.funcs[52]? = some Try.f52 := by kernel_rfl
theorem pf53 : Try.prog.funcs[53]? = some Try.f53 := by kernel_rfl
theorem pf54 : Try.prog.funcs[54]? = some Try.f54 := by kernel_rfl
theorem pf55 : Try.prog.funcs[55]? = some Try.f55 := by kernel_rfl
theorem pf56 : Try.prog.funcs[56]? = some Try.f56 := by kernel_rfl
theorem pf57 : Try.prog.funcs[57]? = some Try.f57 := by kernel_rfl
theorem pf58 : Try.prog.funcs[58]? = some Try.f58 := by kernel_rfl
theorem pf59 : Try.prog.funcs[59]? = some Try.f59 := by kernel_rfl
theorem pf60 : Try.prog.funcs[60]? = some Try.f60 := by kernel_rfl
theorem pf61 : Try.prog.funcs[61]? = some Try.f61 := by kernel_rfl
theorem pf62 : Try.prog.funcs[62]? = some Try.f62 := by kernel_rfl
theorem pf63 : Try.prog.funcs[63]? = some Try.f63 := by kernel_rfl
theorem pf64 : Try.prog.funcs[64]? = some Try.f64 := by kernel_rfl
theorem pf65 : Try.prog.funcs[65]? = some Try.f65 := by kernel_rfl
theorem pf66 : Try.prog.funcs[66]? = some Try.f66 := by kernel_rfl
theorem pf67 : Try.prog.funcs[67]? = some Try.f67 := by kernel_rfl
theorem pf68 : Try.prog.funcs[68]? = some Try.f68 := by kernel_rfl
theorem pf69 : Try.prog.funcs[69]? = some Try.f69 := by kernel_rfl
theorem pf70 : Try.prog.funcs[70]? = some Try.f70 := by kernel_rfl
theorem pf71 : Try.prog.funcs[71]? = some Try.f71 := by kernel_rfl
theorem pf72 : Try.prog.funcs[72]? = some Try.f72 := by kernel_rfl
theorem pf73 : Try.prog.funcs[73]? = some Try.f73 := by kernel_rfl
theorem pf74 : Try.prog.funcs[74]? = some Try.f74 := by kernel_rfl
theorem pf75 : Try.prog.funcs[75]? = some Try.f75 := by kernel_rfl
theorem pf76 : Try.prog.funcs[76]? = some Try.f76 := by kernel_rfl
theorem pf77 : Try.prog.funcs[77]? = some Try.f77 := by kernel_rfl
theorem pf78 : Try.prog.funcs[78]? = some Try.f78 := by kernel_rfl
theorem bd2 : Bd Try.prog 2 := ⟨_, pf2, rfl, rfl⟩
theorem bd3 : Bd Try.prog 3 := ⟨_, pf3, rfl, rfl⟩
theorem bd4 : Bd Try.prog 4 := ⟨_, pf4, rfl, rfl⟩
theorem bd5 : Bd Try.prog 5 := ⟨_, pf5, rfl, rfl⟩
theorem bd6 : Bd Try.prog 6 := ⟨_, pf6, rfl, rfl⟩
theorem bd7 : Bd Try.prog 7 := ⟨_, pf7, rfl, rfl⟩
theorem bd8 : Bd Try.prog 8 := ⟨_, pf8, rfl, rfl⟩
theorem bd9 : Bd Try.prog 9 := ⟨_, pf9, rfl, rfl⟩
theorem bd10 : Bd Try.prog 10 := ⟨_, pf10, rfl, rfl⟩
theorem bd11 : Bd Try.prog 11 := ⟨_, pf11, rfl, rfl⟩
theorem bd12 : Bd Try.prog 12 := ⟨_, pf12, rfl, rfl⟩
theorem bd13 : Bd Try.prog 13 := ⟨_, pf13, rfl, rfl⟩
theorem bd14 : Bd Try.prog 14 := ⟨_, pf14, rfl, rfl⟩
theorem bd15 : Bd Try.prog 15 := ⟨_, pf15, rfl, rfl⟩
theorem bd16 : Bd Try.prog 16 := ⟨_, pf16, rfl, rfl⟩
theorem bd17 : Bd Try.prog 17 := ⟨_, pf17, rfl, rfl⟩
theorem bd18 : Bd Try.prog 18 := ⟨_, pf18, rfl, rfl⟩
theorem bd19 : Bd Try.prog 19 := ⟨_, pf19, rfl, rfl⟩
theorem bd20 : Bd Try.prog 20 := ⟨_, pf20, rfl, rfl⟩
theorem bd21 : Bd Try.prog 21 := ⟨_, pf21, rfl, rfl⟩
theorem bd22 : Bd Try.prog 22 := ⟨_, pf22, rfl, rfl⟩
theorem bd23 : Bd Try.prog 23 := ⟨_, pf23, rfl, rfl⟩
theorem bd24 : Bd Try.prog 24 := ⟨_, pf24, rfl, rfl⟩
theorem bd25 : Bd Try.prog 25 := ⟨_, pf25, rfl, rfl⟩
theorem bd26 : Bd Try.prog 26 := ⟨_, pf26, rfl, rfl⟩
theorem bd27 : Bd Try.prog 27 := ⟨_, pf27, rfl, rfl⟩
theorem bd28 : Bd Try.prog 28 := ⟨_, pf28, rfl, rfl⟩
theorem bd29 : Bd Try.prog 29 := ⟨_, pf29, rfl, rfl⟩
theorem bd30 : Bd Try.prog 30 := ⟨_, pf30, rfl, rfl⟩
theorem bd31 : Bd Try.prog 31 := ⟨_, pf31, rfl, rfl⟩
theorem bd32 : Bd Try.prog 32 := ⟨_, pf32, rfl, rfl⟩
theorem bd33 : Bd Try.prog 33 := ⟨_, pf33, rfl, rfl⟩
theorem bd34 : Bd Try.prog 34 := ⟨_, pf34, rfl, rfl⟩
theorem bd35 : Bd Try.prog 35 := ⟨_, pf35, rfl, rfl⟩
theorem bd36 : Bd Try.prog 36 := ⟨_, pf36, rfl, rfl⟩
theorem bd37 : Bd Try.prog 37 := ⟨_, pf37, rfl, rfl⟩
theorem bd38 : Bd Try.prog 38 := ⟨_, pf38, rfl, rfl⟩
theorem bd39 : Bd Try.prog 39 := ⟨_, pf39, rfl, rfl⟩
theorem bd40 : Bd Try.prog 40 := ⟨_, pf40, rfl, rfl⟩
theorem bd41 : Bd Try.prog 41 := ⟨_, pf41, rfl, rfl⟩
theorem bd42 : Bd Try.prog 42 := ⟨_, pf42, rfl, rfl⟩
theorem bd43 : Bd Try.prog 43 := ⟨_, pf43, rfl, rfl⟩
theorem bd44 : Bd Try.prog 44 := ⟨_, pf44, rfl, rfl⟩
theorem bd45 : Bd Try.prog 45 := ⟨_, pf45, rfl, rfl⟩
theorem bd46 : Bd Try.prog 46 := ⟨_, pf46, rfl, rfl⟩
theorem bd47 : Bd Try.prog 47 := ⟨_, pf47, rfl, rfl⟩
theorem bd48 : Bd Try.prog 48 := ⟨_, pf48, rfl, rfl⟩
theorem bd49 : Bd Try.prog 49 := ⟨_, pf49, rfl, rfl⟩
theorem bd50 : Bd Try.prog 50 := ⟨_, pf50, rfl, rfl⟩
theorem bd51 : Bd Try.prog 51 := ⟨_, pf51, rfl, rfl⟩
theorem bd52 : Bd Try.prog 52 := ⟨_, pf52, rfl, rfl⟩
theorem bd53 : Bd Try.prog 53 := ⟨_, pf53, rfl, rfl⟩
theorem bd54 : Bd Try.prog 54 := ⟨_, pf54, rfl, rfl⟩
theorem bd55 : Bd Try.prog 55 := ⟨_, pf55, rfl, rfl⟩
theorem bd56 : Bd Try.prog 56 := ⟨_, pf56, rfl, rfl⟩
theorem bd57 : Bd Try.prog 57 := ⟨_, pf57, rfl, rfl⟩
theorem bd58 : Bd Try.prog 58 := ⟨_, pf58, rfl, rfl⟩
theorem bd59 : Bd Try.prog 59 := ⟨_, pf59, rfl, rfl⟩
theorem bd60 : Bd Try.prog 60 := ⟨_, pf60, rfl, rfl⟩
theorem bd61 : Bd Try.prog 61 := ⟨_, pf61, rfl, rfl⟩
theorem bd62 : Bd Try.prog 62 := ⟨_, pf62, rfl, rfl⟩
end Go.Eng.Tab
