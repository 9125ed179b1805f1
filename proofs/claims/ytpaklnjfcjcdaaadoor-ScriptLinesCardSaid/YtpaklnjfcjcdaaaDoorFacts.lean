/- The facts on types that the walks want, each by the kernel. Written by facts.py (own). -/
import Derived.Test.YtpaklnjfcjcdaaaDoorProg
import Derived.Test.YtpaklnjfcjcdaaaDoorSXV
namespace Go.SX
open Go.Proofs
set_option linter.unusedVariables false
namespace TTryd
@[push_cast] theorem agg23 : aggT Tryd.prog 23 = some true := by kernel_rfl
@[push_cast] theorem agg3 : aggT Tryd.prog 3 = some false := by kernel_rfl
@[push_cast] theorem agg30 : aggT Tryd.prog 30 = some true := by kernel_rfl
@[push_cast] theorem agg32 : aggT Tryd.prog 32 = some true := by kernel_rfl
@[push_cast] theorem agg34 : aggT Tryd.prog 34 = some true := by kernel_rfl
@[push_cast] theorem agg35 : aggT Tryd.prog 35 = some false := by kernel_rfl
@[push_cast] theorem agg37 : aggT Tryd.prog 37 = some true := by kernel_rfl
@[push_cast] theorem agg39 : aggT Tryd.prog 39 = some false := by kernel_rfl
@[push_cast] theorem agg4 : aggT Tryd.prog 4 = some false := by kernel_rfl
@[push_cast] theorem agg41 : aggT Tryd.prog 41 = some true := by kernel_rfl
@[push_cast] theorem agg43 : aggT Tryd.prog 43 = some true := by kernel_rfl
@[push_cast] theorem agg48 : aggT Tryd.prog 48 = some false := by kernel_rfl
@[push_cast] theorem agg5 : aggT Tryd.prog 5 = some false := by kernel_rfl
@[push_cast] theorem agg52 : aggT Tryd.prog 52 = some true := by kernel_rfl
@[push_cast] theorem agg68 : aggT Tryd.prog 68 = some false := by kernel_rfl
@[push_cast] theorem agg9 : aggT Tryd.prog 9 = some false := by kernel_rfl
@[push_cast] theorem arr23 : arrT Tryd.prog 23 = some (3, 3) := by kernel_rfl
@[push_cast] theorem arr67 : arrT Tryd.prog 67 = some (24, 5) := by kernel_rfl
@[push_cast] theorem arr79 : arrT Tryd.prog 79 = some (20, 68) := by kernel_rfl
@[push_cast] theorem arr81 : arrT Tryd.prog 81 = some (65, 5) := by kernel_rfl
@[push_cast] theorem arr85 : arrT Tryd.prog 85 = some (32, 5) := by kernel_rfl
@[push_cast] theorem arr86 : arrT Tryd.prog 86 = some (64, 5) := by kernel_rfl
@[push_cast] theorem by43 : bytesT Tryd.prog 43 = some 296 := by kernel_rfl
@[push_cast] theorem by5 : bytesT Tryd.prog 5 = some 1 := by kernel_rfl
@[push_cast] theorem by52 : bytesT Tryd.prog 52 = some 40 := by kernel_rfl
@[push_cast] theorem by74 : bytesT Tryd.prog 74 = some 32 := by kernel_rfl
@[push_cast] theorem by9 : bytesT Tryd.prog 9 = some 16 := by kernel_rfl
@[push_cast] theorem fld26_0 : fieldT Tryd.prog 26 0 = some (0, 9) := by kernel_rfl
@[push_cast] theorem fld26_1 : fieldT Tryd.prog 26 1 = some (1, 23) := by kernel_rfl
@[push_cast] theorem fld26_2 : fieldT Tryd.prog 26 2 = some (4, 24) := by kernel_rfl
@[push_cast] theorem fld28_0 : fieldT Tryd.prog 28 0 = some (0, 9) := by kernel_rfl
@[push_cast] theorem fld28_1 : fieldT Tryd.prog 28 1 = some (1, 23) := by kernel_rfl
@[push_cast] theorem fld30_0 : fieldT Tryd.prog 30 0 = some (0, 9) := by kernel_rfl
@[push_cast] theorem fld30_1 : fieldT Tryd.prog 30 1 = some (1, 9) := by kernel_rfl
@[push_cast] theorem fld30_2 : fieldT Tryd.prog 30 2 = some (2, 3) := by kernel_rfl
@[push_cast] theorem fld30_3 : fieldT Tryd.prog 30 3 = some (3, 23) := by kernel_rfl
@[push_cast] theorem fld30_4 : fieldT Tryd.prog 30 4 = some (6, 24) := by kernel_rfl
@[push_cast] theorem fld30_5 : fieldT Tryd.prog 30 5 = some (7, 9) := by kernel_rfl
@[push_cast] theorem fld30_6 : fieldT Tryd.prog 30 6 = some (8, 9) := by kernel_rfl
@[push_cast] theorem fld30_7 : fieldT Tryd.prog 30 7 = some (9, 3) := by kernel_rfl
@[push_cast] theorem fld32_0 : fieldT Tryd.prog 32 0 = some (0, 3) := by kernel_rfl
@[push_cast] theorem fld32_1 : fieldT Tryd.prog 32 1 = some (1, 26) := by kernel_rfl
@[push_cast] theorem fld32_2 : fieldT Tryd.prog 32 2 = some (6, 28) := by kernel_rfl
@[push_cast] theorem fld32_3 : fieldT Tryd.prog 32 3 = some (10, 30) := by kernel_rfl
@[push_cast] theorem fld32_4 : fieldT Tryd.prog 32 4 = some (20, 9) := by kernel_rfl
@[push_cast] theorem fld34_0 : fieldT Tryd.prog 34 0 = some (0, 3) := by kernel_rfl
@[push_cast] theorem fld37_0 : fieldT Tryd.prog 37 0 = some (0, 3) := by kernel_rfl
@[push_cast] theorem fld37_1 : fieldT Tryd.prog 37 1 = some (1, 35) := by kernel_rfl
@[push_cast] theorem fld37_2 : fieldT Tryd.prog 37 2 = some (2, 3) := by kernel_rfl
@[push_cast] theorem fld41_0 : fieldT Tryd.prog 41 0 = some (0, 39) := by kernel_rfl
@[push_cast] theorem fld41_1 : fieldT Tryd.prog 41 1 = some (1, 35) := by kernel_rfl
@[push_cast] theorem fld41_2 : fieldT Tryd.prog 41 2 = some (2, 3) := by kernel_rfl
@[push_cast] theorem fld43_0 : fieldT Tryd.prog 43 0 = some (0, 3) := by kernel_rfl
@[push_cast] theorem fld43_1 : fieldT Tryd.prog 43 1 = some (1, 3) := by kernel_rfl
@[push_cast] theorem fld43_2 : fieldT Tryd.prog 43 2 = some (2, 3) := by kernel_rfl
@[push_cast] theorem fld43_3 : fieldT Tryd.prog 43 3 = some (3, 9) := by kernel_rfl
@[push_cast] theorem fld43_4 : fieldT Tryd.prog 43 4 = some (4, 32) := by kernel_rfl
@[push_cast] theorem fld52_0 : fieldT Tryd.prog 52 0 = some (0, 3) := by kernel_rfl
@[push_cast] theorem fld52_1 : fieldT Tryd.prog 52 1 = some (1, 9) := by kernel_rfl
@[push_cast] theorem fld52_2 : fieldT Tryd.prog 52 2 = some (2, 9) := by kernel_rfl
@[push_cast] theorem fld58_0 : fieldT Tryd.prog 58 0 = some (0, 48) := by kernel_rfl
@[push_cast] theorem fld58_1 : fieldT Tryd.prog 58 1 = some (1, 4) := by kernel_rfl
@[push_cast] theorem fld74_0 : fieldT Tryd.prog 74 0 = some (0, 9) := by kernel_rfl
@[push_cast] theorem fld74_1 : fieldT Tryd.prog 74 1 = some (1, 9) := by kernel_rfl
@[push_cast] theorem is2 : (Tryd.prog.underlying 2).isSome = true := by kernel_rfl
@[push_cast] theorem is3 : (Tryd.prog.underlying 3).isSome = true := by kernel_rfl
@[push_cast] theorem is5 : (Tryd.prog.underlying 5).isSome = true := by kernel_rfl
@[push_cast] theorem is68 : (Tryd.prog.underlying 68).isSome = true := by kernel_rfl
@[push_cast] theorem is76 : (Tryd.prog.underlying 76).isSome = true := by kernel_rfl
@[push_cast] theorem is80 : (Tryd.prog.underlying 80).isSome = true := by kernel_rfl
@[push_cast] theorem kind2 : kindT Tryd.prog 2 = some .i64 := by kernel_rfl
@[push_cast] theorem kind3 : kindT Tryd.prog 3 = some .i64 := by kernel_rfl
@[push_cast] theorem kind5 : kindT Tryd.prog 5 = some .u8 := by kernel_rfl
@[push_cast] theorem kind68 : kindT Tryd.prog 68 = some .u64 := by kernel_rfl
@[push_cast] theorem kind76 : kindT Tryd.prog 76 = some .u64 := by kernel_rfl
@[push_cast] theorem kind80 : kindT Tryd.prog 80 = some .u32 := by kernel_rfl
@[push_cast] theorem sl24 : elemSl Tryd.prog 24 = some 74 := by kernel_rfl
@[push_cast] theorem sl35 : elemSl Tryd.prog 35 = some 52 := by kernel_rfl
@[push_cast] theorem sl46 : elemSl Tryd.prog 46 = some 43 := by kernel_rfl
@[push_cast] theorem sl48 : elemSl Tryd.prog 48 = some 5 := by kernel_rfl
@[push_cast] theorem sl54 : elemSl Tryd.prog 54 = some 9 := by kernel_rfl
@[push_cast] theorem str9 : strT Tryd.prog 9 = true := by kernel_rfl
@[push_cast] theorem st26 : structT Tryd.prog 26 = true := by kernel_rfl
@[push_cast] theorem st28 : structT Tryd.prog 28 = true := by kernel_rfl
@[push_cast] theorem st30 : structT Tryd.prog 30 = true := by kernel_rfl
@[push_cast] theorem st32 : structT Tryd.prog 32 = true := by kernel_rfl
@[push_cast] theorem st41 : structT Tryd.prog 41 = true := by kernel_rfl
@[push_cast] theorem st43 : structT Tryd.prog 43 = true := by kernel_rfl
@[push_cast] theorem st58 : structT Tryd.prog 58 = true := by kernel_rfl
@[push_cast] theorem st74 : structT Tryd.prog 74 = true := by kernel_rfl
@[push_cast] theorem st79 : structT Tryd.prog 79 = false := by kernel_rfl
@[push_cast] theorem st85 : structT Tryd.prog 85 = false := by kernel_rfl
@[push_cast] theorem st86 : structT Tryd.prog 86 = false := by kernel_rfl
@[push_cast] theorem sz23 : szT Tryd.prog 23 = some 3 := by kernel_rfl
@[push_cast] theorem sz24 : szT Tryd.prog 24 = some 1 := by kernel_rfl
@[push_cast] theorem sz26 : szT Tryd.prog 26 = some 5 := by kernel_rfl
@[push_cast] theorem sz28 : szT Tryd.prog 28 = some 4 := by kernel_rfl
@[push_cast] theorem sz3 : szT Tryd.prog 3 = some 1 := by kernel_rfl
@[push_cast] theorem sz30 : szT Tryd.prog 30 = some 10 := by kernel_rfl
@[push_cast] theorem sz32 : szT Tryd.prog 32 = some 21 := by kernel_rfl
@[push_cast] theorem sz34 : szT Tryd.prog 34 = some 25 := by kernel_rfl
@[push_cast] theorem sz35 : szT Tryd.prog 35 = some 1 := by kernel_rfl
@[push_cast] theorem sz37 : szT Tryd.prog 37 = some 3 := by kernel_rfl
@[push_cast] theorem sz39 : szT Tryd.prog 39 = some 1 := by kernel_rfl
@[push_cast] theorem sz4 : szT Tryd.prog 4 = some 1 := by kernel_rfl
@[push_cast] theorem sz41 : szT Tryd.prog 41 = some 3 := by kernel_rfl
@[push_cast] theorem sz43 : szT Tryd.prog 43 = some 25 := by kernel_rfl
@[push_cast] theorem sz48 : szT Tryd.prog 48 = some 1 := by kernel_rfl
@[push_cast] theorem sz5 : szT Tryd.prog 5 = some 1 := by kernel_rfl
@[push_cast] theorem sz52 : szT Tryd.prog 52 = some 3 := by kernel_rfl
@[push_cast] theorem sz68 : szT Tryd.prog 68 = some 1 := by kernel_rfl
@[push_cast] theorem sz74 : szT Tryd.prog 74 = some 2 := by kernel_rfl
@[push_cast] theorem sz79 : szT Tryd.prog 79 = some 20 := by kernel_rfl
@[push_cast] theorem sz85 : szT Tryd.prog 85 = some 32 := by kernel_rfl
@[push_cast] theorem sz86 : szT Tryd.prog 86 = some 64 := by kernel_rfl
@[push_cast] theorem sz9 : szT Tryd.prog 9 = some 1 := by kernel_rfl
@[push_cast] theorem zer23 : zerT Tryd.prog 23 = some [.int .i64 0, .int .i64 0, .int .i64 0] := by kernel_rfl
@[push_cast] theorem zer26 : zerT Tryd.prog 26 = some [.string ⟨#[]⟩, .int .i64 0, .int .i64 0, .int .i64 0, .slice none 0 0] := by kernel_rfl
@[push_cast] theorem zer28 : zerT Tryd.prog 28 = some [.string ⟨#[]⟩, .int .i64 0, .int .i64 0, .int .i64 0] := by kernel_rfl
@[push_cast] theorem zer30 : zerT Tryd.prog 30 = some [.string ⟨#[]⟩, .string ⟨#[]⟩, .int .i64 0, .int .i64 0, .int .i64 0, .int .i64 0, .slice none 0 0, .string ⟨#[]⟩, .string ⟨#[]⟩, .int .i64 0] := by kernel_rfl
@[push_cast] theorem zer32 : zerT Tryd.prog 32 = some [.int .i64 0, .string ⟨#[]⟩, .int .i64 0, .int .i64 0, .int .i64 0, .slice none 0 0, .string ⟨#[]⟩, .int .i64 0, .int .i64 0, .int .i64 0, .string ⟨#[]⟩, .string ⟨#[]⟩, .int .i64 0, .int .i64 0, .int .i64 0, .int .i64 0, .slice none 0 0, .string ⟨#[]⟩, .string ⟨#[]⟩, .int .i64 0, .string ⟨#[]⟩] := by kernel_rfl
@[push_cast] theorem zer41 : zerT Tryd.prog 41 = some [.int .i64 0, .slice none 0 0, .int .i64 0] := by kernel_rfl
@[push_cast] theorem zer43 : zerT Tryd.prog 43 = some [.int .i64 0, .int .i64 0, .int .i64 0, .string ⟨#[]⟩, .int .i64 0, .string ⟨#[]⟩, .int .i64 0, .int .i64 0, .int .i64 0, .slice none 0 0, .string ⟨#[]⟩, .int .i64 0, .int .i64 0, .int .i64 0, .string ⟨#[]⟩, .string ⟨#[]⟩, .int .i64 0, .int .i64 0, .int .i64 0, .int .i64 0, .slice none 0 0, .string ⟨#[]⟩, .string ⟨#[]⟩, .int .i64 0, .string ⟨#[]⟩] := by kernel_rfl
@[push_cast] theorem zer5 : zerT Tryd.prog 5 = some [.int .u8 0] := by kernel_rfl
@[push_cast] theorem zer52 : zerT Tryd.prog 52 = some [.int .i64 0, .string ⟨#[]⟩, .string ⟨#[]⟩] := by kernel_rfl
@[push_cast] theorem zer58 : zerT Tryd.prog 58 = some [.slice none 0 0, .bool false] := by kernel_rfl
@[push_cast] theorem zer67 : zerT Tryd.prog 67 = some [.int .u8 0, .int .u8 0, .int .u8 0, .int .u8 0, .int .u8 0, .int .u8 0, .int .u8 0, .int .u8 0, .int .u8 0, .int .u8 0, .int .u8 0, .int .u8 0, .int .u8 0, .int .u8 0, .int .u8 0, .int .u8 0, .int .u8 0, .int .u8 0, .int .u8 0, .int .u8 0, .int .u8 0, .int .u8 0, .int .u8 0, .int .u8 0] := by kernel_rfl
@[push_cast] theorem zer74 : zerT Tryd.prog 74 = some [.string ⟨#[]⟩, .string ⟨#[]⟩] := by kernel_rfl
@[push_cast] theorem zer79 : zerT Tryd.prog 79 = some [.int .u64 0, .int .u64 0, .int .u64 0, .int .u64 0, .int .u64 0, .int .u64 0, .int .u64 0, .int .u64 0, .int .u64 0, .int .u64 0, .int .u64 0, .int .u64 0, .int .u64 0, .int .u64 0, .int .u64 0, .int .u64 0, .int .u64 0, .int .u64 0, .int .u64 0, .int .u64 0] := by kernel_rfl
@[push_cast] theorem zer81 : zerT Tryd.prog 81 = some [.int .u8 0, .int .u8 0, .int .u8 0, .int .u8 0, .int .u8 0, .int .u8 0, .int .u8 0, .int .u8 0, .int .u8 0, .int .u8 0, .int .u8 0, .int .u8 0, .int .u8 0, .int .u8 0, .int .u8 0, .int .u8 0, .int .u8 0, .int .u8 0, .int .u8 0, .int .u8 0, .int .u8 0, .int .u8 0, .int .u8 0, .int .u8 0, .int .u8 0, .int .u8 0, .int .u8 0, .int .u8 0, .int .u8 0, .int .u8 0, .int .u8 0, .int .u8 0, .int .u8 0, .int .u8 0, .int .u8 0, .int .u8 0, .int .u8 0, .int .u8 0, .int .u8 0, .int .u8 0, .int .u8 0, .int .u8 0, .int .u8 0, .int .u8 0, .int .u8 0, .int .u8 0, .int .u8 0, .int .u8 0, .int .u8 0, .int .u8 0, .int .u8 0, .int .u8 0, .int .u8 0, .int .u8 0, .int .u8 0, .int .u8 0, .int .u8 0, .int .u8 0, .int .u8 0, .int .u8 0, .int .u8 0, .int .u8 0, .int .u8 0, .int .u8 0, .int .u8 0] := by kernel_rfl
@[push_cast] theorem zer85 : zerT Tryd.prog 85 = some [.int .u8 0, .int .u8 0, .int .u8 0, .int .u8 0, .int .u8 0, .int .u8 0, .int .u8 0, .int .u8 0, .int .u8 0, .int .u8 0, .int .u8 0, .int .u8 0, .int .u8 0, .int .u8 0, .int .u8 0, .int .u8 0, .int .u8 0, .int .u8 0, .int .u8 0, .int .u8 0, .int .u8 0, .int .u8 0, .int .u8 0, .int .u8 0, .int .u8 0, .int .u8 0, .int .u8 0, .int .u8 0, .int .u8 0, .int .u8 0, .int .u8 0, .int .u8 0] := by kernel_rfl
@[push_cast] theorem zer86 : zerT Tryd.prog 86 = some [.int .u8 0, .int .u8 0, .int .u8 0, .int .u8 0, .int .u8 0, .int .u8 0, .int .u8 0, .int .u8 0, .int .u8 0, .int .u8 0, .int .u8 0, .int .u8 0, .int .u8 0, .int .u8 0, .int .u8 0, .int .u8 0, .int .u8 0, .int .u8 0, .int .u8 0, .int .u8 0, .int .u8 0, .int .u8 0, .int .u8 0, .int .u8 0, .int .u8 0, .int .u8 0, .int .u8 0, .int .u8 0, .int .u8 0, .int .u8 0, .int .u8 0, .int .u8 0, .int .u8 0, .int .u8 0, .int .u8 0, .int .u8 0, .int .u8 0, .int .u8 0, .int .u8 0, .int .u8 0, .int .u8 0, .int .u8 0, .int .u8 0, .int .u8 0, .int .u8 0, .int .u8 0, .int .u8 0, .int .u8 0, .int .u8 0, .int .u8 0, .int .u8 0, .int .u8 0, .int .u8 0, .int .u8 0, .int .u8 0, .int .u8 0, .int .u8 0, .int .u8 0, .int .u8 0, .int .u8 0, .int .u8 0, .int .u8 0, .int .u8 0, .int .u8 0] := by kernel_rfl
@[push_cast] theorem zer9 : zerT Tryd.prog 9 = some [.string ⟨#[]⟩] := by kernel_rfl
end TTryd
end Go.SX
