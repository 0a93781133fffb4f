import Derived.Test.YtfplfbaebiaanaaGreatRows
import Derived.KernelRfl
import Derived.Test.YtfplfbaebiaanaaGreatFeF
namespace Go.Proofs.YtfplfbaebiaanaaGreat
open Go.RowKit Go.Fe
def ty1 : Ty := ⟨1, false, [], none, none, none, (some [.nilFunc]), none, 0, 8, none⟩
def ty2 : Ty := ⟨1, false, [], none, none, (some .i64), (some [.int .i64 0]), none, 0, 8, none⟩
def ty3 : Ty := ⟨1, false, [], none, none, (some .i64), (some [.int .i64 0]), none, 0, 8, none⟩
def ty4 : Ty := ⟨1, false, [], none, none, none, (some [.bool false]), none, 1, 1, none⟩
def ty5 : Ty := ⟨1, false, [], none, none, (some .u8), (some [.int .u8 0]), none, 0, 1, none⟩
def ty7 : Ty := ⟨4, true, [(0, 2), (1, 3), (2, 4), (3, 6)], none, none, none, (some [.int .i64 0, .int .i64 0, .bool false, .int .u8 0]), (some [(0, 1), (1, 1), (2, 1), (3, 1)]), 0, 24, none⟩
def ty12 : Ty := ⟨1, false, [], none, none, (some .u64), (some [.int .u64 0]), none, 0, 8, none⟩
def ty21 : Ty := ⟨1, false, [], none, none, (some .i32), (some [.int .i32 0]), none, 0, 4, none⟩
def ty22 : Ty := ⟨1, false, [], none, (some 71), none, (some [.slice none 0 0]), none, 0, 24, none⟩
def ty23 : Ty := ⟨1, false, [], none, (some 69), none, (some [.slice none 0 0]), none, 0, 24, none⟩
def ty24 : Ty := ⟨1, false, [], none, (some 41), none, (some [.slice none 0 0]), none, 0, 24, none⟩
def ty25 : Ty := ⟨1, false, [], none, none, none, (some [.nilFunc]), none, 0, 8, none⟩
def ty26 : Ty := ⟨1, false, [], none, none, none, (some [.nilFunc]), none, 0, 8, none⟩
def ty27 : Ty := ⟨1, false, [], none, none, none, (some [.nilFunc]), none, 0, 8, none⟩
def ty28 : Ty := ⟨1, false, [], none, none, none, (some [.pointer none]), none, 2, 8, none⟩
def ty29 : Ty := ⟨1, false, [], none, none, (some .i64), (some [.int .i64 0]), none, 0, 8, none⟩
def ty31 : Ty := ⟨1, false, [], none, none, none, (some [.nilFunc]), none, 0, 8, none⟩
def ty34 : Ty := ⟨1, false, [], none, none, none, (some [.nilFunc]), none, 0, 8, none⟩
def ty35 : Ty := ⟨1, false, [], none, (some 39), none, (some [.slice none 0 0]), none, 0, 24, none⟩
def ty37 : Ty := ⟨1, false, [], none, none, none, (some [.nilFunc]), none, 0, 8, none⟩
def ty38 : Ty := ⟨3, true, [(0, 3), (1, 3), (2, 3)], none, none, none, (some [.int .i64 0, .int .i64 0, .int .i64 0]), (some [(0, 1), (1, 1), (2, 1)]), 0, 24, none⟩
def ty39 : Ty := ⟨3, true, [(0, 3), (1, 3), (2, 3)], none, none, none, (some [.int .i64 0, .int .i64 0, .int .i64 0]), (some [(0, 1), (1, 1), (2, 1)]), 0, 24, none⟩
def ty40 : Ty := ⟨6, true, [(0, 39), (3, 39)], none, none, none, (some [.int .i64 0, .int .i64 0, .int .i64 0, .int .i64 0, .int .i64 0, .int .i64 0]), (some [(0, 3), (3, 3)]), 0, 48, none⟩
def ty41 : Ty := ⟨6, true, [(0, 39), (3, 39)], none, none, none, (some [.int .i64 0, .int .i64 0, .int .i64 0, .int .i64 0, .int .i64 0, .int .i64 0]), (some [(0, 3), (3, 3)]), 0, 48, none⟩
def ty43 : Ty := ⟨1, false, [], none, none, none, (some [.nilFunc]), none, 0, 8, none⟩
def ty45 : Ty := ⟨1, false, [], none, none, none, (some [.nilFunc]), none, 0, 8, none⟩
def ty46 : Ty := ⟨4, true, [(0, 22), (1, 23), (2, 3), (3, 3)], none, none, none, (some [.slice none 0 0, .slice none 0 0, .int .i64 0, .int .i64 0]), (some [(0, 1), (1, 1), (2, 1), (3, 1)]), 0, 64, none⟩
def ty47 : Ty := ⟨4, true, [(0, 22), (1, 23), (2, 3), (3, 3)], none, none, none, (some [.slice none 0 0, .slice none 0 0, .int .i64 0, .int .i64 0]), (some [(0, 1), (1, 1), (2, 1), (3, 1)]), 0, 64, none⟩
def ty49 : Ty := ⟨1, false, [], none, none, none, (some [.nilFunc]), none, 0, 8, none⟩
def ty50 : Ty := ⟨1, false, [], none, none, none, (some [.nilFunc]), none, 0, 8, none⟩
def ty51 : Ty := ⟨1, false, [], none, none, none, (some [.nilFunc]), none, 0, 8, none⟩
def ty52 : Ty := ⟨1, false, [], none, none, none, (some [.nilFunc]), none, 0, 8, none⟩
def ty53 : Ty := ⟨1, false, [], none, none, none, (some [.nilFunc]), none, 0, 8, none⟩
def ty54 : Ty := ⟨1, false, [], none, none, none, (some [.nilFunc]), none, 0, 8, none⟩
def ty56 : Ty := ⟨1, false, [], none, none, none, (some [.nilFunc]), none, 0, 8, none⟩
def ty57 : Ty := ⟨1, false, [], none, none, none, (some [.nilFunc]), none, 0, 8, none⟩
def ty58 : Ty := ⟨1, false, [], none, none, none, (some [.nilFunc]), none, 0, 8, none⟩
def ty59 : Ty := ⟨1, false, [], none, none, none, (some [.nilFunc]), none, 0, 8, none⟩
def ty60 : Ty := ⟨1, false, [], none, none, none, (some [.nilFunc]), none, 0, 8, none⟩
def ty62 : Ty := ⟨1, false, [], none, none, none, (some [.nilFunc]), none, 0, 8, none⟩
def ty63 : Ty := ⟨1, false, [], none, none, none, (some [.nilFunc]), none, 0, 8, none⟩
def ty64 : Ty := ⟨1, false, [], none, none, none, (some [.nilFunc]), none, 0, 8, none⟩
def ty65 : Ty := ⟨6, true, [(0, 39), (3, 39)], none, none, none, (some [.int .i64 0, .int .i64 0, .int .i64 0, .int .i64 0, .int .i64 0, .int .i64 0]), (some [(0, 3), (3, 3)]), 0, 48, none⟩
def ty66 : Ty := ⟨6, true, [(0, 39), (3, 39)], none, none, none, (some [.int .i64 0, .int .i64 0, .int .i64 0, .int .i64 0, .int .i64 0, .int .i64 0]), (some [(0, 3), (3, 3)]), 0, 48, none⟩
def ty67 : Ty := ⟨1, false, [], none, (some 3), none, (some [.slice none 0 0]), none, 0, 24, none⟩
def ty68 : Ty := ⟨9, true, [(0, 66), (6, 3), (7, 3), (8, 67)], none, none, none, (some [.int .i64 0, .int .i64 0, .int .i64 0, .int .i64 0, .int .i64 0, .int .i64 0, .int .i64 0, .int .i64 0, .slice none 0 0]), (some [(0, 6), (6, 1), (7, 1), (8, 1)]), 0, 88, none⟩
def ty69 : Ty := ⟨9, true, [(0, 66), (6, 3), (7, 3), (8, 67)], none, none, none, (some [.int .i64 0, .int .i64 0, .int .i64 0, .int .i64 0, .int .i64 0, .int .i64 0, .int .i64 0, .int .i64 0, .slice none 0 0]), (some [(0, 6), (6, 1), (7, 1), (8, 1)]), 0, 88, none⟩
def ty70 : Ty := ⟨1, false, [], none, none, none, (some [.nilFunc]), none, 0, 8, none⟩
def ty71 : Ty := ⟨9, true, [], (some (3, 39)), none, none, (some [.int .i64 0, .int .i64 0, .int .i64 0, .int .i64 0, .int .i64 0, .int .i64 0, .int .i64 0, .int .i64 0, .int .i64 0]), none, 0, 72, none⟩
def ty72 : Ty := ⟨1, false, [], none, none, none, (some [.nilFunc]), none, 0, 8, none⟩
def ty73 : Ty := ⟨1, false, [], none, none, none, (some [.nilFunc]), none, 0, 8, none⟩
def ty74 : Ty := ⟨0, true, [], none, none, none, (some []), (some []), 0, 0, none⟩
def ty75 : Ty := ⟨0, true, [], none, none, none, (some []), (some []), 0, 0, none⟩
def ty76 : Ty := ⟨0, true, [], none, none, none, (some []), (some []), 0, 0, none⟩
def ty77 : Ty := ⟨1, false, [], none, none, (some .u32), (some [.int .u32 0]), none, 0, 4, none⟩
def ty78 : Ty := ⟨1, true, [(0, 76), (0, 77)], none, none, none, (some [.int .u32 0]), (some [(0, 0), (0, 1)]), 0, 4, none⟩
def ty79 : Ty := ⟨1, true, [(0, 76), (0, 77)], none, none, none, (some [.int .u32 0]), (some [(0, 0), (0, 1)]), 0, 4, none⟩
def ty80 : Ty := ⟨2, true, [(0, 21), (1, 77)], none, none, none, (some [.int .i32 0, .int .u32 0]), (some [(0, 1), (1, 1)]), 0, 8, none⟩
def ty81 : Ty := ⟨2, true, [(0, 21), (1, 77)], none, none, none, (some [.int .i32 0, .int .u32 0]), (some [(0, 1), (1, 1)]), 0, 8, none⟩
def ty82 : Ty := ⟨2, true, [(0, 75), (0, 81)], none, none, none, (some [.int .i32 0, .int .u32 0]), (some [(0, 0), (0, 2)]), 0, 8, none⟩
def ty83 : Ty := ⟨2, true, [(0, 75), (0, 81)], none, none, none, (some [.int .i32 0, .int .u32 0]), (some [(0, 0), (0, 2)]), 0, 8, none⟩
def ty84 : Ty := ⟨3, true, [(0, 75), (0, 79), (1, 83)], none, none, none, (some [.int .u32 0, .int .i32 0, .int .u32 0]), (some [(0, 0), (0, 1), (1, 2)]), 0, 12, none⟩
def ty85 : Ty := ⟨3, true, [(0, 75), (0, 79), (1, 83)], none, none, none, (some [.int .u32 0, .int .i32 0, .int .u32 0]), (some [(0, 0), (0, 1), (1, 2)]), 0, 12, none⟩
def ty86 : Ty := ⟨0, true, [], none, none, none, (some []), (some []), 0, 0, none⟩
def ty87 : Ty := ⟨1, true, [(0, 76), (0, 86), (0, 2)], none, none, none, (some [.int .i64 0]), (some [(0, 0), (0, 0), (0, 1)]), 0, 8, none⟩
def ty88 : Ty := ⟨1, true, [(0, 76), (0, 86), (0, 2)], none, none, none, (some [.int .i64 0]), (some [(0, 0), (0, 0), (0, 1)]), 0, 8, none⟩
def ty89 : Ty := ⟨7, true, [(0, 22), (1, 85), (4, 23), (5, 88), (6, 88)], none, none, none, (some [.slice none 0 0, .int .u32 0, .int .i32 0, .int .u32 0, .slice none 0 0, .int .i64 0, .int .i64 0]), (some [(0, 1), (1, 3), (4, 1), (5, 1), (6, 1)]), 0, 80, none⟩
def ty90 : Ty := ⟨7, true, [(0, 22), (1, 85), (4, 23), (5, 88), (6, 88)], none, none, none, (some [.slice none 0 0, .int .u32 0, .int .i32 0, .int .u32 0, .slice none 0 0, .int .i64 0, .int .i64 0]), (some [(0, 1), (1, 3), (4, 1), (5, 1), (6, 1)]), 0, 80, none⟩
def ty91 : Ty := ⟨1, false, [], none, none, none, (some [.nilFunc]), none, 0, 8, none⟩
def ty93 : Ty := ⟨8, true, [(0, 23), (1, 22), (2, 39), (5, 39)], none, none, none, (some [.slice none 0 0, .slice none 0 0, .int .i64 0, .int .i64 0, .int .i64 0, .int .i64 0, .int .i64 0, .int .i64 0]), (some [(0, 1), (1, 1), (2, 3), (5, 3)]), 0, 96, none⟩
def ty94 : Ty := ⟨8, true, [(0, 23), (1, 22), (2, 39), (5, 39)], none, none, none, (some [.slice none 0 0, .slice none 0 0, .int .i64 0, .int .i64 0, .int .i64 0, .int .i64 0, .int .i64 0, .int .i64 0]), (some [(0, 1), (1, 1), (2, 3), (5, 3)]), 0, 96, none⟩
def ty95 : Ty := ⟨1, false, [], none, none, none, (some [.nilFunc]), none, 0, 8, none⟩
def ty96 : Ty := ⟨1, false, [], none, none, none, (some [.nilFunc]), none, 0, 8, none⟩
def ty97 : Ty := ⟨1, false, [], none, none, none, (some [.nilFunc]), none, 0, 8, none⟩
def ty98 : Ty := ⟨1, false, [], none, none, none, (some [.nilFunc]), none, 0, 8, none⟩
def ty99 : Ty := ⟨1, false, [], none, none, none, (some [.nilFunc]), none, 0, 8, none⟩
def ty100 : Ty := ⟨1, false, [], none, none, none, (some [.nilFunc]), none, 0, 8, none⟩
def ty101 : Ty := ⟨1, false, [], none, none, none, (some [.nilFunc]), none, 0, 8, none⟩
def ty102 : Ty := ⟨1, false, [], none, none, none, (some [.nilFunc]), none, 0, 8, none⟩
def ty103 : Ty := ⟨1, false, [], none, (some 71), none, (some [.slice none 0 0]), none, 0, 24, none⟩
def ty104 : Ty := ⟨1, false, [], none, none, none, (some [.nilFunc]), none, 0, 8, none⟩
def ty105 : Ty := ⟨1, false, [], none, none, none, (some [.nilFunc]), none, 0, 8, none⟩
def ty107 : Ty := ⟨1, false, [], none, none, none, (some [.nilFunc]), none, 0, 8, none⟩
def ty108 : Ty := ⟨1, false, [], none, none, none, (some [.nilFunc]), none, 0, 8, none⟩
def ty109 : Ty := ⟨1, false, [], none, none, none, (some [.nilFunc]), none, 0, 8, none⟩
def ty110 : Ty := ⟨1, false, [], none, none, none, (some [.nilFunc]), none, 0, 8, none⟩
def ty111 : Ty := ⟨1, false, [], none, none, none, (some [.nilFunc]), none, 0, 8, none⟩
def ty112 : Ty := ⟨1, false, [], none, none, none, (some [.nilFunc]), none, 0, 8, none⟩
def ty114 : Ty := ⟨1, false, [], none, none, none, (some [.nilFunc]), none, 0, 8, none⟩
def ty115 : Ty := ⟨1, false, [], none, (some 4), none, (some [.slice none 0 0]), none, 0, 24, none⟩
def ty116 : Ty := ⟨10, true, [(0, 69), (9, 3)], none, none, none, (some [.int .i64 0, .int .i64 0, .int .i64 0, .int .i64 0, .int .i64 0, .int .i64 0, .int .i64 0, .int .i64 0, .slice none 0 0, .int .i64 0]), (some [(0, 9), (9, 1)]), 0, 96, none⟩
def ty117 : Ty := ⟨10, true, [(0, 69), (9, 3)], none, none, none, (some [.int .i64 0, .int .i64 0, .int .i64 0, .int .i64 0, .int .i64 0, .int .i64 0, .int .i64 0, .int .i64 0, .slice none 0 0, .int .i64 0]), (some [(0, 9), (9, 1)]), 0, 96, none⟩
def ty118 : Ty := ⟨1, false, [], none, none, none, (some [.nilFunc]), none, 0, 8, none⟩
def ty119 : Ty := ⟨1, false, [], none, none, none, (some [.nilFunc]), none, 0, 8, none⟩
def ty120 : Ty := ⟨1, false, [], none, none, none, (some [.nilFunc]), none, 0, 8, none⟩
def ty121 : Ty := ⟨1, false, [], none, none, none, (some [.nilFunc]), none, 0, 8, none⟩
def ty122 : Ty := ⟨1, false, [], none, none, none, (some [.nilFunc]), none, 0, 8, none⟩
def ty123 : Ty := ⟨1, false, [], none, none, none, (some [.nilFunc]), none, 0, 8, none⟩
def ty124 : Ty := ⟨1, false, [], none, none, none, (some [.nilFunc]), none, 0, 8, none⟩
def ty125 : Ty := ⟨1, false, [], none, none, none, (some [.pointer none]), none, 2, 8, none⟩
def ty126 : Ty := ⟨1, false, [], none, none, none, (some [.nilFunc]), none, 0, 8, none⟩
def ty127 : Ty := ⟨1, false, [], none, none, none, (some [.pointer none]), none, 2, 8, none⟩
def ty128 : Ty := ⟨1, false, [], none, none, none, (some [.nilFunc]), none, 0, 8, none⟩
def ty129 : Ty := ⟨1, false, [], none, none, none, (some [.nilFunc]), none, 0, 8, none⟩
def ty131 : Ty := ⟨1, false, [], none, none, none, (some [.nilFunc]), none, 0, 8, none⟩
def ty132 : Ty := ⟨1, false, [], none, none, none, (some [.nilFunc]), none, 0, 8, none⟩
def ty133 : Ty := ⟨1, false, [], none, none, none, (some [.nilFunc]), none, 0, 8, none⟩
def ty134 : Ty := ⟨2, true, [(0, 103), (1, 3)], none, none, none, (some [.slice none 0 0, .int .i64 0]), (some [(0, 1), (1, 1)]), 0, 32, none⟩
def ty135 : Ty := ⟨2, true, [(0, 103), (1, 3)], none, none, none, (some [.slice none 0 0, .int .i64 0]), (some [(0, 1), (1, 1)]), 0, 32, none⟩
def ty136 : Ty := ⟨1, false, [], none, none, none, (some [.nilFunc]), none, 0, 8, none⟩
def ty137 : Ty := ⟨1, false, [], none, none, none, (some [.nilFunc]), none, 0, 8, none⟩
def ty138 : Ty := ⟨3, true, [], (some (3, 3)), none, none, (some [.int .i64 0, .int .i64 0, .int .i64 0]), none, 0, 24, none⟩
def ty139 : Ty := ⟨1, false, [], none, none, none, (some [.nilFunc]), none, 0, 8, none⟩
def ty140 : Ty := ⟨1, false, [], none, none, none, (some [.nilFunc]), none, 0, 8, none⟩
def ty141 : Ty := ⟨1, false, [], none, none, none, (some [.nilFunc]), none, 0, 8, none⟩
def ty143 : Ty := ⟨1, false, [], none, none, none, (some [.nilFunc]), none, 0, 8, none⟩
def ty144 : Ty := ⟨1, false, [], none, none, none, (some [.nilFunc]), none, 0, 8, none⟩
def ty145 : Ty := ⟨1, false, [], none, none, none, (some [.nilFunc]), none, 0, 8, none⟩
def ty146 : Ty := ⟨1, false, [], none, none, none, (some [.nilFunc]), none, 0, 8, none⟩
def ty147 : Ty := ⟨1, false, [], none, none, none, (some [.nilFunc]), none, 0, 8, none⟩
def ty148 : Ty := ⟨2, true, [(0, 3), (1, 3)], none, none, none, (some [.int .i64 0, .int .i64 0]), (some [(0, 1), (1, 1)]), 0, 16, (some [.int .i64 0, .int .i64 0])⟩
def ty149 : Ty := ⟨2, true, [(0, 3), (1, 3)], none, none, none, (some [.int .i64 0, .int .i64 0]), (some [(0, 1), (1, 1)]), 0, 16, (some [.int .i64 0, .int .i64 0])⟩
def ty150 : Ty := ⟨1, false, [], none, none, none, (some [.nilFunc]), none, 0, 8, none⟩
def ty151 : Ty := ⟨1, false, [], none, none, none, (some [.nilFunc]), none, 0, 8, none⟩
def ty152 : Ty := ⟨1, false, [], none, none, none, (some [.nilFunc]), none, 0, 8, none⟩
def ty153 : Ty := ⟨1, false, [], none, none, none, (some [.nilFunc]), none, 0, 8, none⟩
def ty154 : Ty := ⟨1, false, [], none, none, none, (some [.nilFunc]), none, 0, 8, none⟩
def ty156 : Ty := ⟨1, false, [], none, none, none, (some [.nilFunc]), none, 0, 8, none⟩
def ty157 : Ty := ⟨1, false, [], none, none, none, (some [.nilFunc]), none, 0, 8, none⟩
def ty158 : Ty := ⟨1, false, [], none, none, none, (some [.pointer none]), none, 2, 8, none⟩
def ty159 : Ty := ⟨1, false, [], none, none, none, (some [.nilFunc]), none, 0, 8, none⟩
def ty160 : Ty := ⟨1, false, [], none, none, none, (some [.nilFunc]), none, 0, 8, none⟩
def ty161 : Ty := ⟨1, false, [], none, none, none, (some [.nilFunc]), none, 0, 8, none⟩
def ty162 : Ty := ⟨1, false, [], none, none, none, (some [.nilFunc]), none, 0, 8, none⟩
def ty163 : Ty := ⟨1, false, [], none, none, none, (some [.nilFunc]), none, 0, 8, none⟩
def ty164 : Ty := ⟨1, false, [], none, none, none, (some [.nilFunc]), none, 0, 8, none⟩
def ty165 : Ty := ⟨1, false, [], none, none, (some .u64), (some [.int .u64 0]), none, 0, 8, none⟩
def ty167 : Ty := ⟨1, false, [], none, none, none, (some [.nilFunc]), none, 0, 8, none⟩
def ty168 : Ty := ⟨1, false, [], none, none, none, (some [.nilFunc]), none, 0, 8, none⟩
def ty169 : Ty := ⟨1, false, [], none, none, none, (some [.nilFunc]), none, 0, 8, none⟩
def ty170 : Ty := ⟨1, false, [], none, none, none, (some [.nilFunc]), none, 0, 8, none⟩
def ty172 : Ty := ⟨1, false, [], none, none, none, (some [.nilFunc]), none, 0, 8, none⟩
def ty173 : Ty := ⟨1, false, [], none, none, none, (some [.nilFunc]), none, 0, 8, none⟩
def ty174 : Ty := ⟨2, true, [(0, 3), (1, 3)], none, none, none, (some [.int .i64 0, .int .i64 0]), (some [(0, 1), (1, 1)]), 0, 16, (some [.int .i64 0, .int .i64 0])⟩
def ty175 : Ty := ⟨1, false, [], none, none, none, (some [.nilFunc]), none, 0, 8, none⟩
def ty176 : Ty := ⟨1, false, [], none, none, none, (some [.nilFunc]), none, 0, 8, none⟩
def ty177 : Ty := ⟨2, true, [(0, 4), (1, 67)], none, none, none, (some [.bool false, .slice none 0 0]), (some [(0, 1), (1, 1)]), 0, 32, none⟩
def ty178 : Ty := ⟨2, true, [(0, 4), (1, 67)], none, none, none, (some [.bool false, .slice none 0 0]), (some [(0, 1), (1, 1)]), 0, 32, none⟩
def ty179 : Ty := ⟨1, false, [], none, none, none, (some [.nilFunc]), none, 0, 8, none⟩
def ty180 : Ty := ⟨1, false, [], none, none, none, (some [.nilFunc]), none, 0, 8, none⟩
def ty181 : Ty := ⟨1, false, [], none, none, none, (some [.nilFunc]), none, 0, 8, none⟩
def ty182 : Ty := ⟨1, false, [], none, none, none, (some [.pointer none]), none, 2, 8, none⟩
def ty183 : Ty := ⟨1, false, [], none, none, none, (some [.nilFunc]), none, 0, 8, none⟩
def ty184 : Ty := ⟨1, false, [], none, none, none, (some [.pointer none]), none, 2, 8, none⟩
def ty185 : Ty := ⟨1, false, [], none, none, none, (some [.nilFunc]), none, 0, 8, none⟩
def ty186 : Ty := ⟨1, false, [], none, none, none, (some [.nilFunc]), none, 0, 8, none⟩
def ty187 : Ty := ⟨1, false, [], none, none, (some .i64), (some [.int .i64 0]), none, 0, 8, none⟩
def ty189 : Ty := ⟨1, false, [], none, none, none, (some [.nilFunc]), none, 0, 8, none⟩
def ty190 : Ty := ⟨1, false, [], none, none, none, (some [.nilFunc]), none, 0, 8, none⟩
def ty191 : Ty := ⟨1, false, [], none, none, none, (some [.nilFunc]), none, 0, 8, none⟩
def ty193 : Ty := ⟨1, false, [], none, none, none, (some [.nilFunc]), none, 0, 8, none⟩
def ty194 : Ty := ⟨1, false, [], none, none, none, (some [.nilFunc]), none, 0, 8, none⟩
def ty195 : Ty := ⟨1, false, [], none, none, none, (some [.nilFunc]), none, 0, 8, none⟩
def ty196 : Ty := ⟨1, false, [], none, none, (some .u64), (some [.int .u64 0]), none, 0, 8, none⟩
def ty197 : Ty := ⟨9, true, [], (some (3, 39)), none, none, (some [.int .i64 0, .int .i64 0, .int .i64 0, .int .i64 0, .int .i64 0, .int .i64 0, .int .i64 0, .int .i64 0, .int .i64 0]), none, 0, 72, none⟩
def ty198 : Ty := ⟨1, false, [], none, none, none, (some [.nilFunc]), none, 0, 8, none⟩
def ty199 : Ty := ⟨1, false, [], none, none, none, (some [.nilFunc]), none, 0, 8, none⟩
def ty201 : Ty := ⟨1, false, [], none, none, none, (some [.nilFunc]), none, 0, 8, none⟩
def ty203 : Ty := ⟨1, false, [], none, none, none, (some [.nilFunc]), none, 0, 8, none⟩
def ty204 : Ty := ⟨2, true, [(0, 3), (1, 3)], none, none, none, (some [.int .i64 0, .int .i64 0]), (some [(0, 1), (1, 1)]), 0, 16, (some [.int .i64 0, .int .i64 0])⟩
def ty205 : Ty := ⟨2, true, [(0, 3), (1, 3)], none, none, none, (some [.int .i64 0, .int .i64 0]), (some [(0, 1), (1, 1)]), 0, 16, (some [.int .i64 0, .int .i64 0])⟩
def ty207 : Ty := ⟨1, false, [], none, none, none, (some [.nilFunc]), none, 0, 8, none⟩
def ty208 : Ty := ⟨1, false, [], none, none, none, (some [.nilFunc]), none, 0, 8, none⟩
def ty209 : Ty := ⟨1, false, [], none, none, none, (some [.nilFunc]), none, 0, 8, none⟩
def ty210 : Ty := ⟨1, false, [], none, none, none, (some [.nilFunc]), none, 0, 8, none⟩
def ty211 : Ty := ⟨1, false, [], none, none, none, (some [.nilFunc]), none, 0, 8, none⟩
def ty212 : Ty := ⟨1, false, [], none, none, none, (some [.pointer none]), none, 5, 8, none⟩
def ty213 : Ty := ⟨1, false, [], none, none, none, (some [.nilFunc]), none, 0, 8, none⟩
def ty214 : Ty := ⟨1, false, [], none, none, none, (some [.nilFunc]), none, 0, 8, none⟩
def ty215 : Ty := ⟨1, false, [], none, none, (some .u64), (some [.int .u64 0]), none, 0, 8, none⟩
def ty216 : Ty := ⟨1, false, [], none, none, none, (some [.nilFunc]), none, 0, 8, none⟩
def ty217 : Ty := ⟨1, false, [], none, none, none, (some [.nilFunc]), none, 0, 8, none⟩
def ty218 : Ty := ⟨1, false, [], none, none, none, (some [.nilFunc]), none, 0, 8, none⟩
def ty219 : Ty := ⟨1, false, [], none, none, none, (some [.pointer none]), none, 2, 8, none⟩
def ty220 : Ty := ⟨1, false, [], none, none, none, (some [.nilFunc]), none, 0, 8, none⟩
def ty221 : Ty := ⟨1, false, [], none, none, none, (some [.nilFunc]), none, 0, 8, none⟩
def ty222 : Ty := ⟨1, false, [], none, none, none, (some [.nilFunc]), none, 0, 8, none⟩
def ty223 : Ty := ⟨2, true, [], (some (2, 3)), none, none, (some [.int .i64 0, .int .i64 0]), none, 0, 16, none⟩
def ty224 : Ty := ⟨1, false, [], none, none, none, (some [.nilFunc]), none, 0, 8, none⟩
def ty225 : Ty := ⟨1, false, [], none, none, none, (some [.nilFunc]), none, 0, 8, none⟩
def ty226 : Ty := ⟨1, false, [], none, none, none, (some [.nilFunc]), none, 0, 8, none⟩
def ty227 : Ty := ⟨1, false, [], none, none, none, (some [.nilFunc]), none, 0, 8, none⟩
def ty228 : Ty := ⟨1, false, [], none, none, none, (some [.pointer none]), none, 5, 8, none⟩
def ty229 : Ty := ⟨1, false, [], none, none, none, (some [.nilFunc]), none, 0, 8, none⟩
def ty230 : Ty := ⟨1, false, [], none, none, none, (some [.pointer none]), none, 2, 8, none⟩
def ty231 : Ty := ⟨1, false, [], none, none, none, (some [.nilFunc]), none, 0, 8, none⟩
def ty232 : Ty := ⟨1, false, [], none, none, none, (some [.pointer none]), none, 4, 8, none⟩
def ty233 : Ty := ⟨1, false, [], none, none, none, (some [.nilFunc]), none, 0, 8, none⟩
def ty234 : Ty := ⟨1, false, [], none, none, none, (some [.nilFunc]), none, 0, 8, none⟩
def ty235 : Ty := ⟨1, false, [], none, none, none, (some [.pointer none]), none, 2, 8, none⟩
def ty236 : Ty := ⟨1, false, [], none, none, none, (some [.nilFunc]), none, 0, 8, none⟩
def ty237 : Ty := ⟨1, false, [], none, none, none, (some [.nilFunc]), none, 0, 8, none⟩
def ty238 : Ty := ⟨1, false, [], none, none, none, (some [.nilFunc]), none, 0, 8, none⟩
def ty239 : Ty := ⟨1, false, [], none, none, none, (some [.nilFunc]), none, 0, 8, none⟩
def ty240 : Ty := ⟨1, false, [], none, none, none, (some [.nilFunc]), none, 0, 8, none⟩
def ty241 : Ty := ⟨1, false, [], none, none, none, (some [.nilFunc]), none, 0, 8, none⟩
def ty247 : Ty := ⟨1, false, [], none, none, none, (some [.nilFunc]), none, 0, 8, none⟩
def ty250 : Ty := ⟨1, false, [], none, none, none, (some [.nilFunc]), none, 0, 8, none⟩
def ty251 : Ty := ⟨1, false, [], none, none, none, (some [.pointer none]), none, 2, 8, none⟩
def tabT : Fe.LT Ty := .n 131 ty131 (.n 75 ty75 (.n 46 ty46 (.n 27 ty27 (.n 12 ty12 (.n 4 ty4 (.n 2 ty2 (.n 1 ty1 (.l) (.l)) (.n 3 ty3 (.l) (.l))) (.n 7 ty7 (.n 5 ty5 (.l) (.l)) (.l))) (.n 24 ty24 (.n 22 ty22 (.n 21 ty21 (.l) (.l)) (.n 23 ty23 (.l) (.l))) (.n 26 ty26 (.n 25 ty25 (.l) (.l)) (.l)))) (.n 38 ty38 (.n 34 ty34 (.n 29 ty29 (.n 28 ty28 (.l) (.l)) (.n 31 ty31 (.l) (.l))) (.n 37 ty37 (.n 35 ty35 (.l) (.l)) (.l))) (.n 41 ty41 (.n 40 ty40 (.n 39 ty39 (.l) (.l)) (.l)) (.n 45 ty45 (.n 43 ty43 (.l) (.l)) (.l))))) (.n 62 ty62 (.n 54 ty54 (.n 51 ty51 (.n 49 ty49 (.n 47 ty47 (.l) (.l)) (.n 50 ty50 (.l) (.l))) (.n 53 ty53 (.n 52 ty52 (.l) (.l)) (.l))) (.n 58 ty58 (.n 57 ty57 (.n 56 ty56 (.l) (.l)) (.l)) (.n 60 ty60 (.n 59 ty59 (.l) (.l)) (.l)))) (.n 69 ty69 (.n 66 ty66 (.n 64 ty64 (.n 63 ty63 (.l) (.l)) (.n 65 ty65 (.l) (.l))) (.n 68 ty68 (.n 67 ty67 (.l) (.l)) (.l))) (.n 72 ty72 (.n 71 ty71 (.n 70 ty70 (.l) (.l)) (.l)) (.n 74 ty74 (.n 73 ty73 (.l) (.l)) (.l)))))) (.n 102 ty102 (.n 88 ty88 (.n 82 ty82 (.n 79 ty79 (.n 77 ty77 (.n 76 ty76 (.l) (.l)) (.n 78 ty78 (.l) (.l))) (.n 81 ty81 (.n 80 ty80 (.l) (.l)) (.l))) (.n 85 ty85 (.n 84 ty84 (.n 83 ty83 (.l) (.l)) (.l)) (.n 87 ty87 (.n 86 ty86 (.l) (.l)) (.l)))) (.n 96 ty96 (.n 93 ty93 (.n 90 ty90 (.n 89 ty89 (.l) (.l)) (.n 91 ty91 (.l) (.l))) (.n 95 ty95 (.n 94 ty94 (.l) (.l)) (.l))) (.n 99 ty99 (.n 98 ty98 (.n 97 ty97 (.l) (.l)) (.l)) (.n 101 ty101 (.n 100 ty100 (.l) (.l)) (.l))))) (.n 117 ty117 (.n 110 ty110 (.n 107 ty107 (.n 104 ty104 (.n 103 ty103 (.l) (.l)) (.n 105 ty105 (.l) (.l))) (.n 109 ty109 (.n 108 ty108 (.l) (.l)) (.l))) (.n 114 ty114 (.n 112 ty112 (.n 111 ty111 (.l) (.l)) (.l)) (.n 116 ty116 (.n 115 ty115 (.l) (.l)) (.l)))) (.n 124 ty124 (.n 121 ty121 (.n 119 ty119 (.n 118 ty118 (.l) (.l)) (.n 120 ty120 (.l) (.l))) (.n 123 ty123 (.n 122 ty122 (.l) (.l)) (.l))) (.n 127 ty127 (.n 126 ty126 (.n 125 ty125 (.l) (.l)) (.l)) (.n 129 ty129 (.n 128 ty128 (.l) (.l)) (.l))))))) (.n 189 ty189 (.n 160 ty160 (.n 146 ty146 (.n 138 ty138 (.n 135 ty135 (.n 133 ty133 (.n 132 ty132 (.l) (.l)) (.n 134 ty134 (.l) (.l))) (.n 137 ty137 (.n 136 ty136 (.l) (.l)) (.l))) (.n 143 ty143 (.n 140 ty140 (.n 139 ty139 (.l) (.l)) (.n 141 ty141 (.l) (.l))) (.n 145 ty145 (.n 144 ty144 (.l) (.l)) (.l)))) (.n 153 ty153 (.n 150 ty150 (.n 148 ty148 (.n 147 ty147 (.l) (.l)) (.n 149 ty149 (.l) (.l))) (.n 152 ty152 (.n 151 ty151 (.l) (.l)) (.l))) (.n 157 ty157 (.n 156 ty156 (.n 154 ty154 (.l) (.l)) (.l)) (.n 159 ty159 (.n 158 ty158 (.l) (.l)) (.l))))) (.n 175 ty175 (.n 168 ty168 (.n 164 ty164 (.n 162 ty162 (.n 161 ty161 (.l) (.l)) (.n 163 ty163 (.l) (.l))) (.n 167 ty167 (.n 165 ty165 (.l) (.l)) (.l))) (.n 172 ty172 (.n 170 ty170 (.n 169 ty169 (.l) (.l)) (.l)) (.n 174 ty174 (.n 173 ty173 (.l) (.l)) (.l)))) (.n 182 ty182 (.n 179 ty179 (.n 177 ty177 (.n 176 ty176 (.l) (.l)) (.n 178 ty178 (.l) (.l))) (.n 181 ty181 (.n 180 ty180 (.l) (.l)) (.l))) (.n 185 ty185 (.n 184 ty184 (.n 183 ty183 (.l) (.l)) (.l)) (.n 187 ty187 (.n 186 ty186 (.l) (.l)) (.l)))))) (.n 219 ty219 (.n 205 ty205 (.n 197 ty197 (.n 194 ty194 (.n 191 ty191 (.n 190 ty190 (.l) (.l)) (.n 193 ty193 (.l) (.l))) (.n 196 ty196 (.n 195 ty195 (.l) (.l)) (.l))) (.n 201 ty201 (.n 199 ty199 (.n 198 ty198 (.l) (.l)) (.l)) (.n 204 ty204 (.n 203 ty203 (.l) (.l)) (.l)))) (.n 213 ty213 (.n 210 ty210 (.n 208 ty208 (.n 207 ty207 (.l) (.l)) (.n 209 ty209 (.l) (.l))) (.n 212 ty212 (.n 211 ty211 (.l) (.l)) (.l))) (.n 216 ty216 (.n 215 ty215 (.n 214 ty214 (.l) (.l)) (.l)) (.n 218 ty218 (.n 217 ty217 (.l) (.l)) (.l))))) (.n 232 ty232 (.n 226 ty226 (.n 223 ty223 (.n 221 ty221 (.n 220 ty220 (.l) (.l)) (.n 222 ty222 (.l) (.l))) (.n 225 ty225 (.n 224 ty224 (.l) (.l)) (.l))) (.n 229 ty229 (.n 228 ty228 (.n 227 ty227 (.l) (.l)) (.l)) (.n 231 ty231 (.n 230 ty230 (.l) (.l)) (.l)))) (.n 239 ty239 (.n 236 ty236 (.n 234 ty234 (.n 233 ty233 (.l) (.l)) (.n 235 ty235 (.l) (.l))) (.n 238 ty238 (.n 237 ty237 (.l) (.l)) (.l))) (.n 247 ty247 (.n 241 ty241 (.n 240 ty240 (.l) (.l)) (.l)) (.n 251 ty251 (.n 250 ty250 (.l) (.l)) (.l)))))))
def tab : Tab := fun _ => tabT
theorem tz1 : ZrOk Tryz.prog 1 ty1 := fun cs h => by cases h; exact ⟨rfl, fun w => ⟨.nilFunc, by kernel_rfl, by kernel_rfl⟩⟩
theorem tp1 : PlOk Tryz.prog 1 ty1 := fun cs h => by cases h
theorem te1 : EqOk Tryz.prog 1 ty1 := fun cs h => by cases h
theorem tz2 : ZrOk Tryz.prog 2 ty2 := fun cs h => by cases h; exact ⟨rfl, fun w => ⟨.int .i64 0, by kernel_rfl, by kernel_rfl⟩⟩
theorem tp2 : PlOk Tryz.prog 2 ty2 := fun cs h => by cases h
theorem te2 : EqOk Tryz.prog 2 ty2 := fun cs h => by cases h
theorem tz3 : ZrOk Tryz.prog 3 ty3 := fun cs h => by cases h; exact ⟨rfl, fun w => ⟨.int .i64 0, by kernel_rfl, by kernel_rfl⟩⟩
theorem tp3 : PlOk Tryz.prog 3 ty3 := fun cs h => by cases h
theorem te3 : EqOk Tryz.prog 3 ty3 := fun cs h => by cases h
theorem tz4 : ZrOk Tryz.prog 4 ty4 := fun cs h => by cases h; exact ⟨rfl, fun w => ⟨.bool false, by kernel_rfl, by kernel_rfl⟩⟩
theorem tp4 : PlOk Tryz.prog 4 ty4 := fun cs h => by cases h
theorem te4 : EqOk Tryz.prog 4 ty4 := fun cs h => by cases h
theorem tz5 : ZrOk Tryz.prog 5 ty5 := fun cs h => by cases h; exact ⟨rfl, fun w => ⟨.int .u8 0, by kernel_rfl, by kernel_rfl⟩⟩
theorem tp5 : PlOk Tryz.prog 5 ty5 := fun cs h => by cases h
theorem te5 : EqOk Tryz.prog 5 ty5 := fun cs h => by cases h
theorem tz7 : ZrOk Tryz.prog 7 ty7 := fun cs h => by cases h; exact ⟨rfl, fun w => ⟨.agg #[.int .i64 0, .int .i64 0, .bool false, .int .u8 0], by kernel_rfl, by kernel_rfl⟩⟩
theorem tp7 : PlOk Tryz.prog 7 ty7 := fun cs h => by cases h; exact ⟨_, Tryz.underlying7, fun w => by kernel_rfl⟩
theorem te7 : EqOk Tryz.prog 7 ty7 := fun cs h => by cases h
theorem tz12 : ZrOk Tryz.prog 12 ty12 := fun cs h => by cases h; exact ⟨rfl, fun w => ⟨.int .u64 0, by kernel_rfl, by kernel_rfl⟩⟩
theorem tp12 : PlOk Tryz.prog 12 ty12 := fun cs h => by cases h
theorem te12 : EqOk Tryz.prog 12 ty12 := fun cs h => by cases h
theorem tz21 : ZrOk Tryz.prog 21 ty21 := fun cs h => by cases h; exact ⟨rfl, fun w => ⟨.int .i32 0, by kernel_rfl, by kernel_rfl⟩⟩
theorem tp21 : PlOk Tryz.prog 21 ty21 := fun cs h => by cases h
theorem te21 : EqOk Tryz.prog 21 ty21 := fun cs h => by cases h
theorem tz22 : ZrOk Tryz.prog 22 ty22 := fun cs h => by cases h; exact ⟨rfl, fun w => ⟨.slice none 0 0, by kernel_rfl, by kernel_rfl⟩⟩
theorem tp22 : PlOk Tryz.prog 22 ty22 := fun cs h => by cases h
theorem te22 : EqOk Tryz.prog 22 ty22 := fun cs h => by cases h
theorem tz23 : ZrOk Tryz.prog 23 ty23 := fun cs h => by cases h; exact ⟨rfl, fun w => ⟨.slice none 0 0, by kernel_rfl, by kernel_rfl⟩⟩
theorem tp23 : PlOk Tryz.prog 23 ty23 := fun cs h => by cases h
theorem te23 : EqOk Tryz.prog 23 ty23 := fun cs h => by cases h
theorem tz24 : ZrOk Tryz.prog 24 ty24 := fun cs h => by cases h; exact ⟨rfl, fun w => ⟨.slice none 0 0, by kernel_rfl, by kernel_rfl⟩⟩
theorem tp24 : PlOk Tryz.prog 24 ty24 := fun cs h => by cases h
theorem te24 : EqOk Tryz.prog 24 ty24 := fun cs h => by cases h
theorem tz25 : ZrOk Tryz.prog 25 ty25 := fun cs h => by cases h; exact ⟨rfl, fun w => ⟨.nilFunc, by kernel_rfl, by kernel_rfl⟩⟩
theorem tp25 : PlOk Tryz.prog 25 ty25 := fun cs h => by cases h
theorem te25 : EqOk Tryz.prog 25 ty25 := fun cs h => by cases h
theorem tz26 : ZrOk Tryz.prog 26 ty26 := fun cs h => by cases h; exact ⟨rfl, fun w => ⟨.nilFunc, by kernel_rfl, by kernel_rfl⟩⟩
theorem tp26 : PlOk Tryz.prog 26 ty26 := fun cs h => by cases h
theorem te26 : EqOk Tryz.prog 26 ty26 := fun cs h => by cases h
theorem tz27 : ZrOk Tryz.prog 27 ty27 := fun cs h => by cases h; exact ⟨rfl, fun w => ⟨.nilFunc, by kernel_rfl, by kernel_rfl⟩⟩
theorem tp27 : PlOk Tryz.prog 27 ty27 := fun cs h => by cases h
theorem te27 : EqOk Tryz.prog 27 ty27 := fun cs h => by cases h
theorem tz28 : ZrOk Tryz.prog 28 ty28 := fun cs h => by cases h; exact ⟨rfl, fun w => ⟨.pointer none, by kernel_rfl, by kernel_rfl⟩⟩
theorem tp28 : PlOk Tryz.prog 28 ty28 := fun cs h => by cases h
theorem te28 : EqOk Tryz.prog 28 ty28 := fun cs h => by cases h
theorem tz29 : ZrOk Tryz.prog 29 ty29 := fun cs h => by cases h; exact ⟨rfl, fun w => ⟨.int .i64 0, by kernel_rfl, by kernel_rfl⟩⟩
theorem tp29 : PlOk Tryz.prog 29 ty29 := fun cs h => by cases h
theorem te29 : EqOk Tryz.prog 29 ty29 := fun cs h => by cases h
theorem tz31 : ZrOk Tryz.prog 31 ty31 := fun cs h => by cases h; exact ⟨rfl, fun w => ⟨.nilFunc, by kernel_rfl, by kernel_rfl⟩⟩
theorem tp31 : PlOk Tryz.prog 31 ty31 := fun cs h => by cases h
theorem te31 : EqOk Tryz.prog 31 ty31 := fun cs h => by cases h
theorem tz34 : ZrOk Tryz.prog 34 ty34 := fun cs h => by cases h; exact ⟨rfl, fun w => ⟨.nilFunc, by kernel_rfl, by kernel_rfl⟩⟩
theorem tp34 : PlOk Tryz.prog 34 ty34 := fun cs h => by cases h
theorem te34 : EqOk Tryz.prog 34 ty34 := fun cs h => by cases h
theorem tz35 : ZrOk Tryz.prog 35 ty35 := fun cs h => by cases h; exact ⟨rfl, fun w => ⟨.slice none 0 0, by kernel_rfl, by kernel_rfl⟩⟩
theorem tp35 : PlOk Tryz.prog 35 ty35 := fun cs h => by cases h
theorem te35 : EqOk Tryz.prog 35 ty35 := fun cs h => by cases h
theorem tz37 : ZrOk Tryz.prog 37 ty37 := fun cs h => by cases h; exact ⟨rfl, fun w => ⟨.nilFunc, by kernel_rfl, by kernel_rfl⟩⟩
theorem tp37 : PlOk Tryz.prog 37 ty37 := fun cs h => by cases h
theorem te37 : EqOk Tryz.prog 37 ty37 := fun cs h => by cases h
theorem tz38 : ZrOk Tryz.prog 38 ty38 := fun cs h => by cases h; exact ⟨rfl, fun w => ⟨.agg #[.int .i64 0, .int .i64 0, .int .i64 0], by kernel_rfl, by kernel_rfl⟩⟩
theorem tp38 : PlOk Tryz.prog 38 ty38 := fun cs h => by cases h; exact ⟨_, Tryz.underlying38, fun w => by kernel_rfl⟩
theorem te38 : EqOk Tryz.prog 38 ty38 := fun cs h => by cases h
theorem tz39 : ZrOk Tryz.prog 39 ty39 := fun cs h => by cases h; exact ⟨rfl, fun w => ⟨.agg #[.int .i64 0, .int .i64 0, .int .i64 0], by kernel_rfl, by kernel_rfl⟩⟩
theorem tp39 : PlOk Tryz.prog 39 ty39 := fun cs h => by cases h; exact ⟨_, Tryz.underlying39, fun w => by kernel_rfl⟩
theorem te39 : EqOk Tryz.prog 39 ty39 := fun cs h => by cases h
theorem tz40 : ZrOk Tryz.prog 40 ty40 := fun cs h => by cases h; exact ⟨rfl, fun w => ⟨.agg #[.int .i64 0, .int .i64 0, .int .i64 0, .int .i64 0, .int .i64 0, .int .i64 0], by kernel_rfl, by kernel_rfl⟩⟩
theorem tp40 : PlOk Tryz.prog 40 ty40 := fun cs h => by cases h; exact ⟨_, Tryz.underlying40, fun w => by kernel_rfl⟩
theorem te40 : EqOk Tryz.prog 40 ty40 := fun cs h => by cases h
theorem tz41 : ZrOk Tryz.prog 41 ty41 := fun cs h => by cases h; exact ⟨rfl, fun w => ⟨.agg #[.int .i64 0, .int .i64 0, .int .i64 0, .int .i64 0, .int .i64 0, .int .i64 0], by kernel_rfl, by kernel_rfl⟩⟩
theorem tp41 : PlOk Tryz.prog 41 ty41 := fun cs h => by cases h; exact ⟨_, Tryz.underlying41, fun w => by kernel_rfl⟩
theorem te41 : EqOk Tryz.prog 41 ty41 := fun cs h => by cases h
theorem tz43 : ZrOk Tryz.prog 43 ty43 := fun cs h => by cases h; exact ⟨rfl, fun w => ⟨.nilFunc, by kernel_rfl, by kernel_rfl⟩⟩
theorem tp43 : PlOk Tryz.prog 43 ty43 := fun cs h => by cases h
theorem te43 : EqOk Tryz.prog 43 ty43 := fun cs h => by cases h
theorem tz45 : ZrOk Tryz.prog 45 ty45 := fun cs h => by cases h; exact ⟨rfl, fun w => ⟨.nilFunc, by kernel_rfl, by kernel_rfl⟩⟩
theorem tp45 : PlOk Tryz.prog 45 ty45 := fun cs h => by cases h
theorem te45 : EqOk Tryz.prog 45 ty45 := fun cs h => by cases h
theorem tz46 : ZrOk Tryz.prog 46 ty46 := fun cs h => by cases h; exact ⟨rfl, fun w => ⟨.agg #[.slice none 0 0, .slice none 0 0, .int .i64 0, .int .i64 0], by kernel_rfl, by kernel_rfl⟩⟩
theorem tp46 : PlOk Tryz.prog 46 ty46 := fun cs h => by cases h; exact ⟨_, Tryz.underlying46, fun w => by kernel_rfl⟩
theorem te46 : EqOk Tryz.prog 46 ty46 := fun cs h => by cases h
theorem tz47 : ZrOk Tryz.prog 47 ty47 := fun cs h => by cases h; exact ⟨rfl, fun w => ⟨.agg #[.slice none 0 0, .slice none 0 0, .int .i64 0, .int .i64 0], by kernel_rfl, by kernel_rfl⟩⟩
theorem tp47 : PlOk Tryz.prog 47 ty47 := fun cs h => by cases h; exact ⟨_, Tryz.underlying47, fun w => by kernel_rfl⟩
theorem te47 : EqOk Tryz.prog 47 ty47 := fun cs h => by cases h
theorem tz49 : ZrOk Tryz.prog 49 ty49 := fun cs h => by cases h; exact ⟨rfl, fun w => ⟨.nilFunc, by kernel_rfl, by kernel_rfl⟩⟩
theorem tp49 : PlOk Tryz.prog 49 ty49 := fun cs h => by cases h
theorem te49 : EqOk Tryz.prog 49 ty49 := fun cs h => by cases h
theorem tz50 : ZrOk Tryz.prog 50 ty50 := fun cs h => by cases h; exact ⟨rfl, fun w => ⟨.nilFunc, by kernel_rfl, by kernel_rfl⟩⟩
theorem tp50 : PlOk Tryz.prog 50 ty50 := fun cs h => by cases h
theorem te50 : EqOk Tryz.prog 50 ty50 := fun cs h => by cases h
theorem tz51 : ZrOk Tryz.prog 51 ty51 := fun cs h => by cases h; exact ⟨rfl, fun w => ⟨.nilFunc, by kernel_rfl, by kernel_rfl⟩⟩
theorem tp51 : PlOk Tryz.prog 51 ty51 := fun cs h => by cases h
theorem te51 : EqOk Tryz.prog 51 ty51 := fun cs h => by cases h
theorem tz52 : ZrOk Tryz.prog 52 ty52 := fun cs h => by cases h; exact ⟨rfl, fun w => ⟨.nilFunc, by kernel_rfl, by kernel_rfl⟩⟩
theorem tp52 : PlOk Tryz.prog 52 ty52 := fun cs h => by cases h
theorem te52 : EqOk Tryz.prog 52 ty52 := fun cs h => by cases h
theorem tz53 : ZrOk Tryz.prog 53 ty53 := fun cs h => by cases h; exact ⟨rfl, fun w => ⟨.nilFunc, by kernel_rfl, by kernel_rfl⟩⟩
theorem tp53 : PlOk Tryz.prog 53 ty53 := fun cs h => by cases h
theorem te53 : EqOk Tryz.prog 53 ty53 := fun cs h => by cases h
theorem tz54 : ZrOk Tryz.prog 54 ty54 := fun cs h => by cases h; exact ⟨rfl, fun w => ⟨.nilFunc, by kernel_rfl, by kernel_rfl⟩⟩
theorem tp54 : PlOk Tryz.prog 54 ty54 := fun cs h => by cases h
theorem te54 : EqOk Tryz.prog 54 ty54 := fun cs h => by cases h
theorem tz56 : ZrOk Tryz.prog 56 ty56 := fun cs h => by cases h; exact ⟨rfl, fun w => ⟨.nilFunc, by kernel_rfl, by kernel_rfl⟩⟩
theorem tp56 : PlOk Tryz.prog 56 ty56 := fun cs h => by cases h
theorem te56 : EqOk Tryz.prog 56 ty56 := fun cs h => by cases h
theorem tz57 : ZrOk Tryz.prog 57 ty57 := fun cs h => by cases h; exact ⟨rfl, fun w => ⟨.nilFunc, by kernel_rfl, by kernel_rfl⟩⟩
theorem tp57 : PlOk Tryz.prog 57 ty57 := fun cs h => by cases h
theorem te57 : EqOk Tryz.prog 57 ty57 := fun cs h => by cases h
theorem tz58 : ZrOk Tryz.prog 58 ty58 := fun cs h => by cases h; exact ⟨rfl, fun w => ⟨.nilFunc, by kernel_rfl, by kernel_rfl⟩⟩
theorem tp58 : PlOk Tryz.prog 58 ty58 := fun cs h => by cases h
theorem te58 : EqOk Tryz.prog 58 ty58 := fun cs h => by cases h
theorem tz59 : ZrOk Tryz.prog 59 ty59 := fun cs h => by cases h; exact ⟨rfl, fun w => ⟨.nilFunc, by kernel_rfl, by kernel_rfl⟩⟩
theorem tp59 : PlOk Tryz.prog 59 ty59 := fun cs h => by cases h
theorem te59 : EqOk Tryz.prog 59 ty59 := fun cs h => by cases h
theorem tz60 : ZrOk Tryz.prog 60 ty60 := fun cs h => by cases h; exact ⟨rfl, fun w => ⟨.nilFunc, by kernel_rfl, by kernel_rfl⟩⟩
theorem tp60 : PlOk Tryz.prog 60 ty60 := fun cs h => by cases h
theorem te60 : EqOk Tryz.prog 60 ty60 := fun cs h => by cases h
theorem tz62 : ZrOk Tryz.prog 62 ty62 := fun cs h => by cases h; exact ⟨rfl, fun w => ⟨.nilFunc, by kernel_rfl, by kernel_rfl⟩⟩
theorem tp62 : PlOk Tryz.prog 62 ty62 := fun cs h => by cases h
theorem te62 : EqOk Tryz.prog 62 ty62 := fun cs h => by cases h
theorem tz63 : ZrOk Tryz.prog 63 ty63 := fun cs h => by cases h; exact ⟨rfl, fun w => ⟨.nilFunc, by kernel_rfl, by kernel_rfl⟩⟩
theorem tp63 : PlOk Tryz.prog 63 ty63 := fun cs h => by cases h
theorem te63 : EqOk Tryz.prog 63 ty63 := fun cs h => by cases h
theorem tz64 : ZrOk Tryz.prog 64 ty64 := fun cs h => by cases h; exact ⟨rfl, fun w => ⟨.nilFunc, by kernel_rfl, by kernel_rfl⟩⟩
theorem tp64 : PlOk Tryz.prog 64 ty64 := fun cs h => by cases h
theorem te64 : EqOk Tryz.prog 64 ty64 := fun cs h => by cases h
theorem tz65 : ZrOk Tryz.prog 65 ty65 := fun cs h => by cases h; exact ⟨rfl, fun w => ⟨.agg #[.int .i64 0, .int .i64 0, .int .i64 0, .int .i64 0, .int .i64 0, .int .i64 0], by kernel_rfl, by kernel_rfl⟩⟩
theorem tp65 : PlOk Tryz.prog 65 ty65 := fun cs h => by cases h; exact ⟨_, Tryz.underlying65, fun w => by kernel_rfl⟩
theorem te65 : EqOk Tryz.prog 65 ty65 := fun cs h => by cases h
theorem tz66 : ZrOk Tryz.prog 66 ty66 := fun cs h => by cases h; exact ⟨rfl, fun w => ⟨.agg #[.int .i64 0, .int .i64 0, .int .i64 0, .int .i64 0, .int .i64 0, .int .i64 0], by kernel_rfl, by kernel_rfl⟩⟩
theorem tp66 : PlOk Tryz.prog 66 ty66 := fun cs h => by cases h; exact ⟨_, Tryz.underlying66, fun w => by kernel_rfl⟩
theorem te66 : EqOk Tryz.prog 66 ty66 := fun cs h => by cases h
theorem tz67 : ZrOk Tryz.prog 67 ty67 := fun cs h => by cases h; exact ⟨rfl, fun w => ⟨.slice none 0 0, by kernel_rfl, by kernel_rfl⟩⟩
theorem tp67 : PlOk Tryz.prog 67 ty67 := fun cs h => by cases h
theorem te67 : EqOk Tryz.prog 67 ty67 := fun cs h => by cases h
theorem tz68 : ZrOk Tryz.prog 68 ty68 := fun cs h => by cases h; exact ⟨rfl, fun w => ⟨.agg #[.int .i64 0, .int .i64 0, .int .i64 0, .int .i64 0, .int .i64 0, .int .i64 0, .int .i64 0, .int .i64 0, .slice none 0 0], by kernel_rfl, by kernel_rfl⟩⟩
theorem tp68 : PlOk Tryz.prog 68 ty68 := fun cs h => by cases h; exact ⟨_, Tryz.underlying68, fun w => by kernel_rfl⟩
theorem te68 : EqOk Tryz.prog 68 ty68 := fun cs h => by cases h
theorem tz69 : ZrOk Tryz.prog 69 ty69 := fun cs h => by cases h; exact ⟨rfl, fun w => ⟨.agg #[.int .i64 0, .int .i64 0, .int .i64 0, .int .i64 0, .int .i64 0, .int .i64 0, .int .i64 0, .int .i64 0, .slice none 0 0], by kernel_rfl, by kernel_rfl⟩⟩
theorem tp69 : PlOk Tryz.prog 69 ty69 := fun cs h => by cases h; exact ⟨_, Tryz.underlying69, fun w => by kernel_rfl⟩
theorem te69 : EqOk Tryz.prog 69 ty69 := fun cs h => by cases h
theorem tz70 : ZrOk Tryz.prog 70 ty70 := fun cs h => by cases h; exact ⟨rfl, fun w => ⟨.nilFunc, by kernel_rfl, by kernel_rfl⟩⟩
theorem tp70 : PlOk Tryz.prog 70 ty70 := fun cs h => by cases h
theorem te70 : EqOk Tryz.prog 70 ty70 := fun cs h => by cases h
theorem tz71 : ZrOk Tryz.prog 71 ty71 := fun cs h => by cases h; exact ⟨rfl, fun w => ⟨.agg #[.int .i64 0, .int .i64 0, .int .i64 0, .int .i64 0, .int .i64 0, .int .i64 0, .int .i64 0, .int .i64 0, .int .i64 0], by kernel_rfl, by kernel_rfl⟩⟩
theorem tp71 : PlOk Tryz.prog 71 ty71 := fun cs h => by cases h
theorem te71 : EqOk Tryz.prog 71 ty71 := fun cs h => by cases h
theorem tz72 : ZrOk Tryz.prog 72 ty72 := fun cs h => by cases h; exact ⟨rfl, fun w => ⟨.nilFunc, by kernel_rfl, by kernel_rfl⟩⟩
theorem tp72 : PlOk Tryz.prog 72 ty72 := fun cs h => by cases h
theorem te72 : EqOk Tryz.prog 72 ty72 := fun cs h => by cases h
theorem tz73 : ZrOk Tryz.prog 73 ty73 := fun cs h => by cases h; exact ⟨rfl, fun w => ⟨.nilFunc, by kernel_rfl, by kernel_rfl⟩⟩
theorem tp73 : PlOk Tryz.prog 73 ty73 := fun cs h => by cases h
theorem te73 : EqOk Tryz.prog 73 ty73 := fun cs h => by cases h
theorem tz74 : ZrOk Tryz.prog 74 ty74 := fun cs h => by cases h; exact ⟨rfl, fun w => ⟨.agg #[], by kernel_rfl, by kernel_rfl⟩⟩
theorem tp74 : PlOk Tryz.prog 74 ty74 := fun cs h => by cases h; exact ⟨_, Tryz.underlying74, fun w => by kernel_rfl⟩
theorem te74 : EqOk Tryz.prog 74 ty74 := fun cs h => by cases h
theorem tz75 : ZrOk Tryz.prog 75 ty75 := fun cs h => by cases h; exact ⟨rfl, fun w => ⟨.agg #[], by kernel_rfl, by kernel_rfl⟩⟩
theorem tp75 : PlOk Tryz.prog 75 ty75 := fun cs h => by cases h; exact ⟨_, Tryz.underlying75, fun w => by kernel_rfl⟩
theorem te75 : EqOk Tryz.prog 75 ty75 := fun cs h => by cases h
theorem tz76 : ZrOk Tryz.prog 76 ty76 := fun cs h => by cases h; exact ⟨rfl, fun w => ⟨.agg #[], by kernel_rfl, by kernel_rfl⟩⟩
theorem tp76 : PlOk Tryz.prog 76 ty76 := fun cs h => by cases h; exact ⟨_, Tryz.underlying76, fun w => by kernel_rfl⟩
theorem te76 : EqOk Tryz.prog 76 ty76 := fun cs h => by cases h
theorem tz77 : ZrOk Tryz.prog 77 ty77 := fun cs h => by cases h; exact ⟨rfl, fun w => ⟨.int .u32 0, by kernel_rfl, by kernel_rfl⟩⟩
theorem tp77 : PlOk Tryz.prog 77 ty77 := fun cs h => by cases h
theorem te77 : EqOk Tryz.prog 77 ty77 := fun cs h => by cases h
theorem tz78 : ZrOk Tryz.prog 78 ty78 := fun cs h => by cases h; exact ⟨rfl, fun w => ⟨.agg #[.int .u32 0], by kernel_rfl, by kernel_rfl⟩⟩
theorem tp78 : PlOk Tryz.prog 78 ty78 := fun cs h => by cases h; exact ⟨_, Tryz.underlying78, fun w => by kernel_rfl⟩
theorem te78 : EqOk Tryz.prog 78 ty78 := fun cs h => by cases h
theorem tz79 : ZrOk Tryz.prog 79 ty79 := fun cs h => by cases h; exact ⟨rfl, fun w => ⟨.agg #[.int .u32 0], by kernel_rfl, by kernel_rfl⟩⟩
theorem tp79 : PlOk Tryz.prog 79 ty79 := fun cs h => by cases h; exact ⟨_, Tryz.underlying79, fun w => by kernel_rfl⟩
theorem te79 : EqOk Tryz.prog 79 ty79 := fun cs h => by cases h
theorem tz80 : ZrOk Tryz.prog 80 ty80 := fun cs h => by cases h; exact ⟨rfl, fun w => ⟨.agg #[.int .i32 0, .int .u32 0], by kernel_rfl, by kernel_rfl⟩⟩
theorem tp80 : PlOk Tryz.prog 80 ty80 := fun cs h => by cases h; exact ⟨_, Tryz.underlying80, fun w => by kernel_rfl⟩
theorem te80 : EqOk Tryz.prog 80 ty80 := fun cs h => by cases h
theorem tz81 : ZrOk Tryz.prog 81 ty81 := fun cs h => by cases h; exact ⟨rfl, fun w => ⟨.agg #[.int .i32 0, .int .u32 0], by kernel_rfl, by kernel_rfl⟩⟩
theorem tp81 : PlOk Tryz.prog 81 ty81 := fun cs h => by cases h; exact ⟨_, Tryz.underlying81, fun w => by kernel_rfl⟩
theorem te81 : EqOk Tryz.prog 81 ty81 := fun cs h => by cases h
theorem tz82 : ZrOk Tryz.prog 82 ty82 := fun cs h => by cases h; exact ⟨rfl, fun w => ⟨.agg #[.int .i32 0, .int .u32 0], by kernel_rfl, by kernel_rfl⟩⟩
theorem tp82 : PlOk Tryz.prog 82 ty82 := fun cs h => by cases h; exact ⟨_, Tryz.underlying82, fun w => by kernel_rfl⟩
theorem te82 : EqOk Tryz.prog 82 ty82 := fun cs h => by cases h
theorem tz83 : ZrOk Tryz.prog 83 ty83 := fun cs h => by cases h; exact ⟨rfl, fun w => ⟨.agg #[.int .i32 0, .int .u32 0], by kernel_rfl, by kernel_rfl⟩⟩
theorem tp83 : PlOk Tryz.prog 83 ty83 := fun cs h => by cases h; exact ⟨_, Tryz.underlying83, fun w => by kernel_rfl⟩
theorem te83 : EqOk Tryz.prog 83 ty83 := fun cs h => by cases h
theorem tz84 : ZrOk Tryz.prog 84 ty84 := fun cs h => by cases h; exact ⟨rfl, fun w => ⟨.agg #[.int .u32 0, .int .i32 0, .int .u32 0], by kernel_rfl, by kernel_rfl⟩⟩
theorem tp84 : PlOk Tryz.prog 84 ty84 := fun cs h => by cases h; exact ⟨_, Tryz.underlying84, fun w => by kernel_rfl⟩
theorem te84 : EqOk Tryz.prog 84 ty84 := fun cs h => by cases h
theorem tz85 : ZrOk Tryz.prog 85 ty85 := fun cs h => by cases h; exact ⟨rfl, fun w => ⟨.agg #[.int .u32 0, .int .i32 0, .int .u32 0], by kernel_rfl, by kernel_rfl⟩⟩
theorem tp85 : PlOk Tryz.prog 85 ty85 := fun cs h => by cases h; exact ⟨_, Tryz.underlying85, fun w => by kernel_rfl⟩
theorem te85 : EqOk Tryz.prog 85 ty85 := fun cs h => by cases h
theorem tz86 : ZrOk Tryz.prog 86 ty86 := fun cs h => by cases h; exact ⟨rfl, fun w => ⟨.agg #[], by kernel_rfl, by kernel_rfl⟩⟩
theorem tp86 : PlOk Tryz.prog 86 ty86 := fun cs h => by cases h; exact ⟨_, Tryz.underlying86, fun w => by kernel_rfl⟩
theorem te86 : EqOk Tryz.prog 86 ty86 := fun cs h => by cases h
theorem tz87 : ZrOk Tryz.prog 87 ty87 := fun cs h => by cases h; exact ⟨rfl, fun w => ⟨.agg #[.int .i64 0], by kernel_rfl, by kernel_rfl⟩⟩
theorem tp87 : PlOk Tryz.prog 87 ty87 := fun cs h => by cases h; exact ⟨_, Tryz.underlying87, fun w => by kernel_rfl⟩
theorem te87 : EqOk Tryz.prog 87 ty87 := fun cs h => by cases h
theorem tz88 : ZrOk Tryz.prog 88 ty88 := fun cs h => by cases h; exact ⟨rfl, fun w => ⟨.agg #[.int .i64 0], by kernel_rfl, by kernel_rfl⟩⟩
theorem tp88 : PlOk Tryz.prog 88 ty88 := fun cs h => by cases h; exact ⟨_, Tryz.underlying88, fun w => by kernel_rfl⟩
theorem te88 : EqOk Tryz.prog 88 ty88 := fun cs h => by cases h
theorem tz89 : ZrOk Tryz.prog 89 ty89 := fun cs h => by cases h; exact ⟨rfl, fun w => ⟨.agg #[.slice none 0 0, .int .u32 0, .int .i32 0, .int .u32 0, .slice none 0 0, .int .i64 0, .int .i64 0], by kernel_rfl, by kernel_rfl⟩⟩
theorem tp89 : PlOk Tryz.prog 89 ty89 := fun cs h => by cases h; exact ⟨_, Tryz.underlying89, fun w => by kernel_rfl⟩
theorem te89 : EqOk Tryz.prog 89 ty89 := fun cs h => by cases h
theorem tz90 : ZrOk Tryz.prog 90 ty90 := fun cs h => by cases h; exact ⟨rfl, fun w => ⟨.agg #[.slice none 0 0, .int .u32 0, .int .i32 0, .int .u32 0, .slice none 0 0, .int .i64 0, .int .i64 0], by kernel_rfl, by kernel_rfl⟩⟩
theorem tp90 : PlOk Tryz.prog 90 ty90 := fun cs h => by cases h; exact ⟨_, Tryz.underlying90, fun w => by kernel_rfl⟩
theorem te90 : EqOk Tryz.prog 90 ty90 := fun cs h => by cases h
theorem tz91 : ZrOk Tryz.prog 91 ty91 := fun cs h => by cases h; exact ⟨rfl, fun w => ⟨.nilFunc, by kernel_rfl, by kernel_rfl⟩⟩
theorem tp91 : PlOk Tryz.prog 91 ty91 := fun cs h => by cases h
theorem te91 : EqOk Tryz.prog 91 ty91 := fun cs h => by cases h
theorem tz93 : ZrOk Tryz.prog 93 ty93 := fun cs h => by cases h; exact ⟨rfl, fun w => ⟨.agg #[.slice none 0 0, .slice none 0 0, .int .i64 0, .int .i64 0, .int .i64 0, .int .i64 0, .int .i64 0, .int .i64 0], by kernel_rfl, by kernel_rfl⟩⟩
theorem tp93 : PlOk Tryz.prog 93 ty93 := fun cs h => by cases h; exact ⟨_, Tryz.underlying93, fun w => by kernel_rfl⟩
theorem te93 : EqOk Tryz.prog 93 ty93 := fun cs h => by cases h
theorem tz94 : ZrOk Tryz.prog 94 ty94 := fun cs h => by cases h; exact ⟨rfl, fun w => ⟨.agg #[.slice none 0 0, .slice none 0 0, .int .i64 0, .int .i64 0, .int .i64 0, .int .i64 0, .int .i64 0, .int .i64 0], by kernel_rfl, by kernel_rfl⟩⟩
theorem tp94 : PlOk Tryz.prog 94 ty94 := fun cs h => by cases h; exact ⟨_, Tryz.underlying94, fun w => by kernel_rfl⟩
theorem te94 : EqOk Tryz.prog 94 ty94 := fun cs h => by cases h
theorem tz95 : ZrOk Tryz.prog 95 ty95 := fun cs h => by cases h; exact ⟨rfl, fun w => ⟨.nilFunc, by kernel_rfl, by kernel_rfl⟩⟩
theorem tp95 : PlOk Tryz.prog 95 ty95 := fun cs h => by cases h
theorem te95 : EqOk Tryz.prog 95 ty95 := fun cs h => by cases h
theorem tz96 : ZrOk Tryz.prog 96 ty96 := fun cs h => by cases h; exact ⟨rfl, fun w => ⟨.nilFunc, by kernel_rfl, by kernel_rfl⟩⟩
theorem tp96 : PlOk Tryz.prog 96 ty96 := fun cs h => by cases h
theorem te96 : EqOk Tryz.prog 96 ty96 := fun cs h => by cases h
theorem tz97 : ZrOk Tryz.prog 97 ty97 := fun cs h => by cases h; exact ⟨rfl, fun w => ⟨.nilFunc, by kernel_rfl, by kernel_rfl⟩⟩
theorem tp97 : PlOk Tryz.prog 97 ty97 := fun cs h => by cases h
theorem te97 : EqOk Tryz.prog 97 ty97 := fun cs h => by cases h
theorem tz98 : ZrOk Tryz.prog 98 ty98 := fun cs h => by cases h; exact ⟨rfl, fun w => ⟨.nilFunc, by kernel_rfl, by kernel_rfl⟩⟩
theorem tp98 : PlOk Tryz.prog 98 ty98 := fun cs h => by cases h
theorem te98 : EqOk Tryz.prog 98 ty98 := fun cs h => by cases h
theorem tz99 : ZrOk Tryz.prog 99 ty99 := fun cs h => by cases h; exact ⟨rfl, fun w => ⟨.nilFunc, by kernel_rfl, by kernel_rfl⟩⟩
theorem tp99 : PlOk Tryz.prog 99 ty99 := fun cs h => by cases h
theorem te99 : EqOk Tryz.prog 99 ty99 := fun cs h => by cases h
theorem tz100 : ZrOk Tryz.prog 100 ty100 := fun cs h => by cases h; exact ⟨rfl, fun w => ⟨.nilFunc, by kernel_rfl, by kernel_rfl⟩⟩
theorem tp100 : PlOk Tryz.prog 100 ty100 := fun cs h => by cases h
theorem te100 : EqOk Tryz.prog 100 ty100 := fun cs h => by cases h
theorem tz101 : ZrOk Tryz.prog 101 ty101 := fun cs h => by cases h; exact ⟨rfl, fun w => ⟨.nilFunc, by kernel_rfl, by kernel_rfl⟩⟩
theorem tp101 : PlOk Tryz.prog 101 ty101 := fun cs h => by cases h
theorem te101 : EqOk Tryz.prog 101 ty101 := fun cs h => by cases h
theorem tz102 : ZrOk Tryz.prog 102 ty102 := fun cs h => by cases h; exact ⟨rfl, fun w => ⟨.nilFunc, by kernel_rfl, by kernel_rfl⟩⟩
theorem tp102 : PlOk Tryz.prog 102 ty102 := fun cs h => by cases h
theorem te102 : EqOk Tryz.prog 102 ty102 := fun cs h => by cases h
theorem tz103 : ZrOk Tryz.prog 103 ty103 := fun cs h => by cases h; exact ⟨rfl, fun w => ⟨.slice none 0 0, by kernel_rfl, by kernel_rfl⟩⟩
theorem tp103 : PlOk Tryz.prog 103 ty103 := fun cs h => by cases h
theorem te103 : EqOk Tryz.prog 103 ty103 := fun cs h => by cases h
theorem tz104 : ZrOk Tryz.prog 104 ty104 := fun cs h => by cases h; exact ⟨rfl, fun w => ⟨.nilFunc, by kernel_rfl, by kernel_rfl⟩⟩
theorem tp104 : PlOk Tryz.prog 104 ty104 := fun cs h => by cases h
theorem te104 : EqOk Tryz.prog 104 ty104 := fun cs h => by cases h
theorem tz105 : ZrOk Tryz.prog 105 ty105 := fun cs h => by cases h; exact ⟨rfl, fun w => ⟨.nilFunc, by kernel_rfl, by kernel_rfl⟩⟩
theorem tp105 : PlOk Tryz.prog 105 ty105 := fun cs h => by cases h
theorem te105 : EqOk Tryz.prog 105 ty105 := fun cs h => by cases h
theorem tz107 : ZrOk Tryz.prog 107 ty107 := fun cs h => by cases h; exact ⟨rfl, fun w => ⟨.nilFunc, by kernel_rfl, by kernel_rfl⟩⟩
theorem tp107 : PlOk Tryz.prog 107 ty107 := fun cs h => by cases h
theorem te107 : EqOk Tryz.prog 107 ty107 := fun cs h => by cases h
theorem tz108 : ZrOk Tryz.prog 108 ty108 := fun cs h => by cases h; exact ⟨rfl, fun w => ⟨.nilFunc, by kernel_rfl, by kernel_rfl⟩⟩
theorem tp108 : PlOk Tryz.prog 108 ty108 := fun cs h => by cases h
theorem te108 : EqOk Tryz.prog 108 ty108 := fun cs h => by cases h
theorem tz109 : ZrOk Tryz.prog 109 ty109 := fun cs h => by cases h; exact ⟨rfl, fun w => ⟨.nilFunc, by kernel_rfl, by kernel_rfl⟩⟩
theorem tp109 : PlOk Tryz.prog 109 ty109 := fun cs h => by cases h
theorem te109 : EqOk Tryz.prog 109 ty109 := fun cs h => by cases h
theorem tz110 : ZrOk Tryz.prog 110 ty110 := fun cs h => by cases h; exact ⟨rfl, fun w => ⟨.nilFunc, by kernel_rfl, by kernel_rfl⟩⟩
theorem tp110 : PlOk Tryz.prog 110 ty110 := fun cs h => by cases h
theorem te110 : EqOk Tryz.prog 110 ty110 := fun cs h => by cases h
theorem tz111 : ZrOk Tryz.prog 111 ty111 := fun cs h => by cases h; exact ⟨rfl, fun w => ⟨.nilFunc, by kernel_rfl, by kernel_rfl⟩⟩
theorem tp111 : PlOk Tryz.prog 111 ty111 := fun cs h => by cases h
theorem te111 : EqOk Tryz.prog 111 ty111 := fun cs h => by cases h
theorem tz112 : ZrOk Tryz.prog 112 ty112 := fun cs h => by cases h; exact ⟨rfl, fun w => ⟨.nilFunc, by kernel_rfl, by kernel_rfl⟩⟩
theorem tp112 : PlOk Tryz.prog 112 ty112 := fun cs h => by cases h
theorem te112 : EqOk Tryz.prog 112 ty112 := fun cs h => by cases h
theorem tz114 : ZrOk Tryz.prog 114 ty114 := fun cs h => by cases h; exact ⟨rfl, fun w => ⟨.nilFunc, by kernel_rfl, by kernel_rfl⟩⟩
theorem tp114 : PlOk Tryz.prog 114 ty114 := fun cs h => by cases h
theorem te114 : EqOk Tryz.prog 114 ty114 := fun cs h => by cases h
theorem tz115 : ZrOk Tryz.prog 115 ty115 := fun cs h => by cases h; exact ⟨rfl, fun w => ⟨.slice none 0 0, by kernel_rfl, by kernel_rfl⟩⟩
theorem tp115 : PlOk Tryz.prog 115 ty115 := fun cs h => by cases h
theorem te115 : EqOk Tryz.prog 115 ty115 := fun cs h => by cases h
theorem tz116 : ZrOk Tryz.prog 116 ty116 := fun cs h => by cases h; exact ⟨rfl, fun w => ⟨.agg #[.int .i64 0, .int .i64 0, .int .i64 0, .int .i64 0, .int .i64 0, .int .i64 0, .int .i64 0, .int .i64 0, .slice none 0 0, .int .i64 0], by kernel_rfl, by kernel_rfl⟩⟩
theorem tp116 : PlOk Tryz.prog 116 ty116 := fun cs h => by cases h; exact ⟨_, Tryz.underlying116, fun w => by kernel_rfl⟩
theorem te116 : EqOk Tryz.prog 116 ty116 := fun cs h => by cases h
theorem tz117 : ZrOk Tryz.prog 117 ty117 := fun cs h => by cases h; exact ⟨rfl, fun w => ⟨.agg #[.int .i64 0, .int .i64 0, .int .i64 0, .int .i64 0, .int .i64 0, .int .i64 0, .int .i64 0, .int .i64 0, .slice none 0 0, .int .i64 0], by kernel_rfl, by kernel_rfl⟩⟩
theorem tp117 : PlOk Tryz.prog 117 ty117 := fun cs h => by cases h; exact ⟨_, Tryz.underlying117, fun w => by kernel_rfl⟩
theorem te117 : EqOk Tryz.prog 117 ty117 := fun cs h => by cases h
theorem tz118 : ZrOk Tryz.prog 118 ty118 := fun cs h => by cases h; exact ⟨rfl, fun w => ⟨.nilFunc, by kernel_rfl, by kernel_rfl⟩⟩
theorem tp118 : PlOk Tryz.prog 118 ty118 := fun cs h => by cases h
theorem te118 : EqOk Tryz.prog 118 ty118 := fun cs h => by cases h
theorem tz119 : ZrOk Tryz.prog 119 ty119 := fun cs h => by cases h; exact ⟨rfl, fun w => ⟨.nilFunc, by kernel_rfl, by kernel_rfl⟩⟩
theorem tp119 : PlOk Tryz.prog 119 ty119 := fun cs h => by cases h
theorem te119 : EqOk Tryz.prog 119 ty119 := fun cs h => by cases h
theorem tz120 : ZrOk Tryz.prog 120 ty120 := fun cs h => by cases h; exact ⟨rfl, fun w => ⟨.nilFunc, by kernel_rfl, by kernel_rfl⟩⟩
theorem tp120 : PlOk Tryz.prog 120 ty120 := fun cs h => by cases h
theorem te120 : EqOk Tryz.prog 120 ty120 := fun cs h => by cases h
theorem tz121 : ZrOk Tryz.prog 121 ty121 := fun cs h => by cases h; exact ⟨rfl, fun w => ⟨.nilFunc, by kernel_rfl, by kernel_rfl⟩⟩
theorem tp121 : PlOk Tryz.prog 121 ty121 := fun cs h => by cases h
theorem te121 : EqOk Tryz.prog 121 ty121 := fun cs h => by cases h
theorem tz122 : ZrOk Tryz.prog 122 ty122 := fun cs h => by cases h; exact ⟨rfl, fun w => ⟨.nilFunc, by kernel_rfl, by kernel_rfl⟩⟩
theorem tp122 : PlOk Tryz.prog 122 ty122 := fun cs h => by cases h
theorem te122 : EqOk Tryz.prog 122 ty122 := fun cs h => by cases h
theorem tz123 : ZrOk Tryz.prog 123 ty123 := fun cs h => by cases h; exact ⟨rfl, fun w => ⟨.nilFunc, by kernel_rfl, by kernel_rfl⟩⟩
theorem tp123 : PlOk Tryz.prog 123 ty123 := fun cs h => by cases h
theorem te123 : EqOk Tryz.prog 123 ty123 := fun cs h => by cases h
theorem tz124 : ZrOk Tryz.prog 124 ty124 := fun cs h => by cases h; exact ⟨rfl, fun w => ⟨.nilFunc, by kernel_rfl, by kernel_rfl⟩⟩
theorem tp124 : PlOk Tryz.prog 124 ty124 := fun cs h => by cases h
theorem te124 : EqOk Tryz.prog 124 ty124 := fun cs h => by cases h
theorem tz125 : ZrOk Tryz.prog 125 ty125 := fun cs h => by cases h; exact ⟨rfl, fun w => ⟨.pointer none, by kernel_rfl, by kernel_rfl⟩⟩
theorem tp125 : PlOk Tryz.prog 125 ty125 := fun cs h => by cases h
theorem te125 : EqOk Tryz.prog 125 ty125 := fun cs h => by cases h
theorem tz126 : ZrOk Tryz.prog 126 ty126 := fun cs h => by cases h; exact ⟨rfl, fun w => ⟨.nilFunc, by kernel_rfl, by kernel_rfl⟩⟩
theorem tp126 : PlOk Tryz.prog 126 ty126 := fun cs h => by cases h
theorem te126 : EqOk Tryz.prog 126 ty126 := fun cs h => by cases h
theorem tz127 : ZrOk Tryz.prog 127 ty127 := fun cs h => by cases h; exact ⟨rfl, fun w => ⟨.pointer none, by kernel_rfl, by kernel_rfl⟩⟩
theorem tp127 : PlOk Tryz.prog 127 ty127 := fun cs h => by cases h
theorem te127 : EqOk Tryz.prog 127 ty127 := fun cs h => by cases h
theorem tz128 : ZrOk Tryz.prog 128 ty128 := fun cs h => by cases h; exact ⟨rfl, fun w => ⟨.nilFunc, by kernel_rfl, by kernel_rfl⟩⟩
theorem tp128 : PlOk Tryz.prog 128 ty128 := fun cs h => by cases h
theorem te128 : EqOk Tryz.prog 128 ty128 := fun cs h => by cases h
theorem tz129 : ZrOk Tryz.prog 129 ty129 := fun cs h => by cases h; exact ⟨rfl, fun w => ⟨.nilFunc, by kernel_rfl, by kernel_rfl⟩⟩
theorem tp129 : PlOk Tryz.prog 129 ty129 := fun cs h => by cases h
theorem te129 : EqOk Tryz.prog 129 ty129 := fun cs h => by cases h
theorem tz131 : ZrOk Tryz.prog 131 ty131 := fun cs h => by cases h; exact ⟨rfl, fun w => ⟨.nilFunc, by kernel_rfl, by kernel_rfl⟩⟩
theorem tp131 : PlOk Tryz.prog 131 ty131 := fun cs h => by cases h
theorem te131 : EqOk Tryz.prog 131 ty131 := fun cs h => by cases h
theorem tz132 : ZrOk Tryz.prog 132 ty132 := fun cs h => by cases h; exact ⟨rfl, fun w => ⟨.nilFunc, by kernel_rfl, by kernel_rfl⟩⟩
theorem tp132 : PlOk Tryz.prog 132 ty132 := fun cs h => by cases h
theorem te132 : EqOk Tryz.prog 132 ty132 := fun cs h => by cases h
theorem tz133 : ZrOk Tryz.prog 133 ty133 := fun cs h => by cases h; exact ⟨rfl, fun w => ⟨.nilFunc, by kernel_rfl, by kernel_rfl⟩⟩
theorem tp133 : PlOk Tryz.prog 133 ty133 := fun cs h => by cases h
theorem te133 : EqOk Tryz.prog 133 ty133 := fun cs h => by cases h
theorem tz134 : ZrOk Tryz.prog 134 ty134 := fun cs h => by cases h; exact ⟨rfl, fun w => ⟨.agg #[.slice none 0 0, .int .i64 0], by kernel_rfl, by kernel_rfl⟩⟩
theorem tp134 : PlOk Tryz.prog 134 ty134 := fun cs h => by cases h; exact ⟨_, Tryz.underlying134, fun w => by kernel_rfl⟩
theorem te134 : EqOk Tryz.prog 134 ty134 := fun cs h => by cases h
theorem tz135 : ZrOk Tryz.prog 135 ty135 := fun cs h => by cases h; exact ⟨rfl, fun w => ⟨.agg #[.slice none 0 0, .int .i64 0], by kernel_rfl, by kernel_rfl⟩⟩
theorem tp135 : PlOk Tryz.prog 135 ty135 := fun cs h => by cases h; exact ⟨_, Tryz.underlying135, fun w => by kernel_rfl⟩
theorem te135 : EqOk Tryz.prog 135 ty135 := fun cs h => by cases h
theorem tz136 : ZrOk Tryz.prog 136 ty136 := fun cs h => by cases h; exact ⟨rfl, fun w => ⟨.nilFunc, by kernel_rfl, by kernel_rfl⟩⟩
theorem tp136 : PlOk Tryz.prog 136 ty136 := fun cs h => by cases h
theorem te136 : EqOk Tryz.prog 136 ty136 := fun cs h => by cases h
theorem tz137 : ZrOk Tryz.prog 137 ty137 := fun cs h => by cases h; exact ⟨rfl, fun w => ⟨.nilFunc, by kernel_rfl, by kernel_rfl⟩⟩
theorem tp137 : PlOk Tryz.prog 137 ty137 := fun cs h => by cases h
theorem te137 : EqOk Tryz.prog 137 ty137 := fun cs h => by cases h
theorem tz138 : ZrOk Tryz.prog 138 ty138 := fun cs h => by cases h; exact ⟨rfl, fun w => ⟨.agg #[.int .i64 0, .int .i64 0, .int .i64 0], by kernel_rfl, by kernel_rfl⟩⟩
theorem tp138 : PlOk Tryz.prog 138 ty138 := fun cs h => by cases h
theorem te138 : EqOk Tryz.prog 138 ty138 := fun cs h => by cases h
theorem tz139 : ZrOk Tryz.prog 139 ty139 := fun cs h => by cases h; exact ⟨rfl, fun w => ⟨.nilFunc, by kernel_rfl, by kernel_rfl⟩⟩
theorem tp139 : PlOk Tryz.prog 139 ty139 := fun cs h => by cases h
theorem te139 : EqOk Tryz.prog 139 ty139 := fun cs h => by cases h
theorem tz140 : ZrOk Tryz.prog 140 ty140 := fun cs h => by cases h; exact ⟨rfl, fun w => ⟨.nilFunc, by kernel_rfl, by kernel_rfl⟩⟩
theorem tp140 : PlOk Tryz.prog 140 ty140 := fun cs h => by cases h
theorem te140 : EqOk Tryz.prog 140 ty140 := fun cs h => by cases h
theorem tz141 : ZrOk Tryz.prog 141 ty141 := fun cs h => by cases h; exact ⟨rfl, fun w => ⟨.nilFunc, by kernel_rfl, by kernel_rfl⟩⟩
theorem tp141 : PlOk Tryz.prog 141 ty141 := fun cs h => by cases h
theorem te141 : EqOk Tryz.prog 141 ty141 := fun cs h => by cases h
theorem tz143 : ZrOk Tryz.prog 143 ty143 := fun cs h => by cases h; exact ⟨rfl, fun w => ⟨.nilFunc, by kernel_rfl, by kernel_rfl⟩⟩
theorem tp143 : PlOk Tryz.prog 143 ty143 := fun cs h => by cases h
theorem te143 : EqOk Tryz.prog 143 ty143 := fun cs h => by cases h
theorem tz144 : ZrOk Tryz.prog 144 ty144 := fun cs h => by cases h; exact ⟨rfl, fun w => ⟨.nilFunc, by kernel_rfl, by kernel_rfl⟩⟩
theorem tp144 : PlOk Tryz.prog 144 ty144 := fun cs h => by cases h
theorem te144 : EqOk Tryz.prog 144 ty144 := fun cs h => by cases h
theorem tz145 : ZrOk Tryz.prog 145 ty145 := fun cs h => by cases h; exact ⟨rfl, fun w => ⟨.nilFunc, by kernel_rfl, by kernel_rfl⟩⟩
theorem tp145 : PlOk Tryz.prog 145 ty145 := fun cs h => by cases h
theorem te145 : EqOk Tryz.prog 145 ty145 := fun cs h => by cases h
theorem tz146 : ZrOk Tryz.prog 146 ty146 := fun cs h => by cases h; exact ⟨rfl, fun w => ⟨.nilFunc, by kernel_rfl, by kernel_rfl⟩⟩
theorem tp146 : PlOk Tryz.prog 146 ty146 := fun cs h => by cases h
theorem te146 : EqOk Tryz.prog 146 ty146 := fun cs h => by cases h
theorem tz147 : ZrOk Tryz.prog 147 ty147 := fun cs h => by cases h; exact ⟨rfl, fun w => ⟨.nilFunc, by kernel_rfl, by kernel_rfl⟩⟩
theorem tp147 : PlOk Tryz.prog 147 ty147 := fun cs h => by cases h
theorem te147 : EqOk Tryz.prog 147 ty147 := fun cs h => by cases h
theorem tz148 : ZrOk Tryz.prog 148 ty148 := fun cs h => by cases h; exact ⟨rfl, fun w => ⟨.agg #[.int .i64 0, .int .i64 0], by kernel_rfl, by kernel_rfl⟩⟩
theorem tp148 : PlOk Tryz.prog 148 ty148 := fun cs h => by cases h; exact ⟨_, Tryz.underlying148, fun w => by kernel_rfl⟩
theorem te148 : EqOk Tryz.prog 148 ty148 := fun cs h => by cases h; exact eqTy_two (f := { name := "N", type := 3, offset := 0, embedded := false, tag := "", pkgPath := "", byteOffset := 0 }) (g := { name := "D", type := 3, offset := 1, embedded := false, tag := "", pkgPath := "", byteOffset := 8 }) (by kernel_rfl) (by kernel_rfl) (by kernel_rfl) (by kernel_rfl) (by decide) (by decide) (by kernel_rfl) (by kernel_rfl) (fun x y w => by kernel_rfl) (fun x y w => by kernel_rfl)
theorem tz149 : ZrOk Tryz.prog 149 ty149 := fun cs h => by cases h; exact ⟨rfl, fun w => ⟨.agg #[.int .i64 0, .int .i64 0], by kernel_rfl, by kernel_rfl⟩⟩
theorem tp149 : PlOk Tryz.prog 149 ty149 := fun cs h => by cases h; exact ⟨_, Tryz.underlying149, fun w => by kernel_rfl⟩
theorem te149 : EqOk Tryz.prog 149 ty149 := fun cs h => by cases h; exact eqTy_two (f := { name := "N", type := 3, offset := 0, embedded := false, tag := "", pkgPath := "", byteOffset := 0 }) (g := { name := "D", type := 3, offset := 1, embedded := false, tag := "", pkgPath := "", byteOffset := 8 }) (by kernel_rfl) (by kernel_rfl) (by kernel_rfl) (by kernel_rfl) (by decide) (by decide) (by kernel_rfl) (by kernel_rfl) (fun x y w => by kernel_rfl) (fun x y w => by kernel_rfl)
theorem tz150 : ZrOk Tryz.prog 150 ty150 := fun cs h => by cases h; exact ⟨rfl, fun w => ⟨.nilFunc, by kernel_rfl, by kernel_rfl⟩⟩
theorem tp150 : PlOk Tryz.prog 150 ty150 := fun cs h => by cases h
theorem te150 : EqOk Tryz.prog 150 ty150 := fun cs h => by cases h
theorem tz151 : ZrOk Tryz.prog 151 ty151 := fun cs h => by cases h; exact ⟨rfl, fun w => ⟨.nilFunc, by kernel_rfl, by kernel_rfl⟩⟩
theorem tp151 : PlOk Tryz.prog 151 ty151 := fun cs h => by cases h
theorem te151 : EqOk Tryz.prog 151 ty151 := fun cs h => by cases h
theorem tz152 : ZrOk Tryz.prog 152 ty152 := fun cs h => by cases h; exact ⟨rfl, fun w => ⟨.nilFunc, by kernel_rfl, by kernel_rfl⟩⟩
theorem tp152 : PlOk Tryz.prog 152 ty152 := fun cs h => by cases h
theorem te152 : EqOk Tryz.prog 152 ty152 := fun cs h => by cases h
theorem tz153 : ZrOk Tryz.prog 153 ty153 := fun cs h => by cases h; exact ⟨rfl, fun w => ⟨.nilFunc, by kernel_rfl, by kernel_rfl⟩⟩
theorem tp153 : PlOk Tryz.prog 153 ty153 := fun cs h => by cases h
theorem te153 : EqOk Tryz.prog 153 ty153 := fun cs h => by cases h
theorem tz154 : ZrOk Tryz.prog 154 ty154 := fun cs h => by cases h; exact ⟨rfl, fun w => ⟨.nilFunc, by kernel_rfl, by kernel_rfl⟩⟩
theorem tp154 : PlOk Tryz.prog 154 ty154 := fun cs h => by cases h
theorem te154 : EqOk Tryz.prog 154 ty154 := fun cs h => by cases h
theorem tz156 : ZrOk Tryz.prog 156 ty156 := fun cs h => by cases h; exact ⟨rfl, fun w => ⟨.nilFunc, by kernel_rfl, by kernel_rfl⟩⟩
theorem tp156 : PlOk Tryz.prog 156 ty156 := fun cs h => by cases h
theorem te156 : EqOk Tryz.prog 156 ty156 := fun cs h => by cases h
theorem tz157 : ZrOk Tryz.prog 157 ty157 := fun cs h => by cases h; exact ⟨rfl, fun w => ⟨.nilFunc, by kernel_rfl, by kernel_rfl⟩⟩
theorem tp157 : PlOk Tryz.prog 157 ty157 := fun cs h => by cases h
theorem te157 : EqOk Tryz.prog 157 ty157 := fun cs h => by cases h
theorem tz158 : ZrOk Tryz.prog 158 ty158 := fun cs h => by cases h; exact ⟨rfl, fun w => ⟨.pointer none, by kernel_rfl, by kernel_rfl⟩⟩
theorem tp158 : PlOk Tryz.prog 158 ty158 := fun cs h => by cases h
theorem te158 : EqOk Tryz.prog 158 ty158 := fun cs h => by cases h
theorem tz159 : ZrOk Tryz.prog 159 ty159 := fun cs h => by cases h; exact ⟨rfl, fun w => ⟨.nilFunc, by kernel_rfl, by kernel_rfl⟩⟩
theorem tp159 : PlOk Tryz.prog 159 ty159 := fun cs h => by cases h
theorem te159 : EqOk Tryz.prog 159 ty159 := fun cs h => by cases h
theorem tz160 : ZrOk Tryz.prog 160 ty160 := fun cs h => by cases h; exact ⟨rfl, fun w => ⟨.nilFunc, by kernel_rfl, by kernel_rfl⟩⟩
theorem tp160 : PlOk Tryz.prog 160 ty160 := fun cs h => by cases h
theorem te160 : EqOk Tryz.prog 160 ty160 := fun cs h => by cases h
theorem tz161 : ZrOk Tryz.prog 161 ty161 := fun cs h => by cases h; exact ⟨rfl, fun w => ⟨.nilFunc, by kernel_rfl, by kernel_rfl⟩⟩
theorem tp161 : PlOk Tryz.prog 161 ty161 := fun cs h => by cases h
theorem te161 : EqOk Tryz.prog 161 ty161 := fun cs h => by cases h
theorem tz162 : ZrOk Tryz.prog 162 ty162 := fun cs h => by cases h; exact ⟨rfl, fun w => ⟨.nilFunc, by kernel_rfl, by kernel_rfl⟩⟩
theorem tp162 : PlOk Tryz.prog 162 ty162 := fun cs h => by cases h
theorem te162 : EqOk Tryz.prog 162 ty162 := fun cs h => by cases h
theorem tz163 : ZrOk Tryz.prog 163 ty163 := fun cs h => by cases h; exact ⟨rfl, fun w => ⟨.nilFunc, by kernel_rfl, by kernel_rfl⟩⟩
theorem tp163 : PlOk Tryz.prog 163 ty163 := fun cs h => by cases h
theorem te163 : EqOk Tryz.prog 163 ty163 := fun cs h => by cases h
theorem tz164 : ZrOk Tryz.prog 164 ty164 := fun cs h => by cases h; exact ⟨rfl, fun w => ⟨.nilFunc, by kernel_rfl, by kernel_rfl⟩⟩
theorem tp164 : PlOk Tryz.prog 164 ty164 := fun cs h => by cases h
theorem te164 : EqOk Tryz.prog 164 ty164 := fun cs h => by cases h
theorem tz165 : ZrOk Tryz.prog 165 ty165 := fun cs h => by cases h; exact ⟨rfl, fun w => ⟨.int .u64 0, by kernel_rfl, by kernel_rfl⟩⟩
theorem tp165 : PlOk Tryz.prog 165 ty165 := fun cs h => by cases h
theorem te165 : EqOk Tryz.prog 165 ty165 := fun cs h => by cases h
theorem tz167 : ZrOk Tryz.prog 167 ty167 := fun cs h => by cases h; exact ⟨rfl, fun w => ⟨.nilFunc, by kernel_rfl, by kernel_rfl⟩⟩
theorem tp167 : PlOk Tryz.prog 167 ty167 := fun cs h => by cases h
theorem te167 : EqOk Tryz.prog 167 ty167 := fun cs h => by cases h
theorem tz168 : ZrOk Tryz.prog 168 ty168 := fun cs h => by cases h; exact ⟨rfl, fun w => ⟨.nilFunc, by kernel_rfl, by kernel_rfl⟩⟩
theorem tp168 : PlOk Tryz.prog 168 ty168 := fun cs h => by cases h
theorem te168 : EqOk Tryz.prog 168 ty168 := fun cs h => by cases h
theorem tz169 : ZrOk Tryz.prog 169 ty169 := fun cs h => by cases h; exact ⟨rfl, fun w => ⟨.nilFunc, by kernel_rfl, by kernel_rfl⟩⟩
theorem tp169 : PlOk Tryz.prog 169 ty169 := fun cs h => by cases h
theorem te169 : EqOk Tryz.prog 169 ty169 := fun cs h => by cases h
theorem tz170 : ZrOk Tryz.prog 170 ty170 := fun cs h => by cases h; exact ⟨rfl, fun w => ⟨.nilFunc, by kernel_rfl, by kernel_rfl⟩⟩
theorem tp170 : PlOk Tryz.prog 170 ty170 := fun cs h => by cases h
theorem te170 : EqOk Tryz.prog 170 ty170 := fun cs h => by cases h
theorem tz172 : ZrOk Tryz.prog 172 ty172 := fun cs h => by cases h; exact ⟨rfl, fun w => ⟨.nilFunc, by kernel_rfl, by kernel_rfl⟩⟩
theorem tp172 : PlOk Tryz.prog 172 ty172 := fun cs h => by cases h
theorem te172 : EqOk Tryz.prog 172 ty172 := fun cs h => by cases h
theorem tz173 : ZrOk Tryz.prog 173 ty173 := fun cs h => by cases h; exact ⟨rfl, fun w => ⟨.nilFunc, by kernel_rfl, by kernel_rfl⟩⟩
theorem tp173 : PlOk Tryz.prog 173 ty173 := fun cs h => by cases h
theorem te173 : EqOk Tryz.prog 173 ty173 := fun cs h => by cases h
theorem tz174 : ZrOk Tryz.prog 174 ty174 := fun cs h => by cases h; exact ⟨rfl, fun w => ⟨.agg #[.int .i64 0, .int .i64 0], by kernel_rfl, by kernel_rfl⟩⟩
theorem tp174 : PlOk Tryz.prog 174 ty174 := fun cs h => by cases h; exact ⟨_, Tryz.underlying174, fun w => by kernel_rfl⟩
theorem te174 : EqOk Tryz.prog 174 ty174 := fun cs h => by cases h; exact eqTy_two (f := { name := "N", type := 3, offset := 0, embedded := false, tag := "", pkgPath := "", byteOffset := 0 }) (g := { name := "D", type := 3, offset := 1, embedded := false, tag := "", pkgPath := "", byteOffset := 8 }) (by kernel_rfl) (by kernel_rfl) (by kernel_rfl) (by kernel_rfl) (by decide) (by decide) (by kernel_rfl) (by kernel_rfl) (fun x y w => by kernel_rfl) (fun x y w => by kernel_rfl)
theorem tz175 : ZrOk Tryz.prog 175 ty175 := fun cs h => by cases h; exact ⟨rfl, fun w => ⟨.nilFunc, by kernel_rfl, by kernel_rfl⟩⟩
theorem tp175 : PlOk Tryz.prog 175 ty175 := fun cs h => by cases h
theorem te175 : EqOk Tryz.prog 175 ty175 := fun cs h => by cases h
theorem tz176 : ZrOk Tryz.prog 176 ty176 := fun cs h => by cases h; exact ⟨rfl, fun w => ⟨.nilFunc, by kernel_rfl, by kernel_rfl⟩⟩
theorem tp176 : PlOk Tryz.prog 176 ty176 := fun cs h => by cases h
theorem te176 : EqOk Tryz.prog 176 ty176 := fun cs h => by cases h
theorem tz177 : ZrOk Tryz.prog 177 ty177 := fun cs h => by cases h; exact ⟨rfl, fun w => ⟨.agg #[.bool false, .slice none 0 0], by kernel_rfl, by kernel_rfl⟩⟩
theorem tp177 : PlOk Tryz.prog 177 ty177 := fun cs h => by cases h; exact ⟨_, Tryz.underlying177, fun w => by kernel_rfl⟩
theorem te177 : EqOk Tryz.prog 177 ty177 := fun cs h => by cases h
theorem tz178 : ZrOk Tryz.prog 178 ty178 := fun cs h => by cases h; exact ⟨rfl, fun w => ⟨.agg #[.bool false, .slice none 0 0], by kernel_rfl, by kernel_rfl⟩⟩
theorem tp178 : PlOk Tryz.prog 178 ty178 := fun cs h => by cases h; exact ⟨_, Tryz.underlying178, fun w => by kernel_rfl⟩
theorem te178 : EqOk Tryz.prog 178 ty178 := fun cs h => by cases h
theorem tz179 : ZrOk Tryz.prog 179 ty179 := fun cs h => by cases h; exact ⟨rfl, fun w => ⟨.nilFunc, by kernel_rfl, by kernel_rfl⟩⟩
theorem tp179 : PlOk Tryz.prog 179 ty179 := fun cs h => by cases h
theorem te179 : EqOk Tryz.prog 179 ty179 := fun cs h => by cases h
theorem tz180 : ZrOk Tryz.prog 180 ty180 := fun cs h => by cases h; exact ⟨rfl, fun w => ⟨.nilFunc, by kernel_rfl, by kernel_rfl⟩⟩
theorem tp180 : PlOk Tryz.prog 180 ty180 := fun cs h => by cases h
theorem te180 : EqOk Tryz.prog 180 ty180 := fun cs h => by cases h
theorem tz181 : ZrOk Tryz.prog 181 ty181 := fun cs h => by cases h; exact ⟨rfl, fun w => ⟨.nilFunc, by kernel_rfl, by kernel_rfl⟩⟩
theorem tp181 : PlOk Tryz.prog 181 ty181 := fun cs h => by cases h
theorem te181 : EqOk Tryz.prog 181 ty181 := fun cs h => by cases h
theorem tz182 : ZrOk Tryz.prog 182 ty182 := fun cs h => by cases h; exact ⟨rfl, fun w => ⟨.pointer none, by kernel_rfl, by kernel_rfl⟩⟩
theorem tp182 : PlOk Tryz.prog 182 ty182 := fun cs h => by cases h
theorem te182 : EqOk Tryz.prog 182 ty182 := fun cs h => by cases h
theorem tz183 : ZrOk Tryz.prog 183 ty183 := fun cs h => by cases h; exact ⟨rfl, fun w => ⟨.nilFunc, by kernel_rfl, by kernel_rfl⟩⟩
theorem tp183 : PlOk Tryz.prog 183 ty183 := fun cs h => by cases h
theorem te183 : EqOk Tryz.prog 183 ty183 := fun cs h => by cases h
theorem tz184 : ZrOk Tryz.prog 184 ty184 := fun cs h => by cases h; exact ⟨rfl, fun w => ⟨.pointer none, by kernel_rfl, by kernel_rfl⟩⟩
theorem tp184 : PlOk Tryz.prog 184 ty184 := fun cs h => by cases h
theorem te184 : EqOk Tryz.prog 184 ty184 := fun cs h => by cases h
theorem tz185 : ZrOk Tryz.prog 185 ty185 := fun cs h => by cases h; exact ⟨rfl, fun w => ⟨.nilFunc, by kernel_rfl, by kernel_rfl⟩⟩
theorem tp185 : PlOk Tryz.prog 185 ty185 := fun cs h => by cases h
theorem te185 : EqOk Tryz.prog 185 ty185 := fun cs h => by cases h
theorem tz186 : ZrOk Tryz.prog 186 ty186 := fun cs h => by cases h; exact ⟨rfl, fun w => ⟨.nilFunc, by kernel_rfl, by kernel_rfl⟩⟩
theorem tp186 : PlOk Tryz.prog 186 ty186 := fun cs h => by cases h
theorem te186 : EqOk Tryz.prog 186 ty186 := fun cs h => by cases h
theorem tz187 : ZrOk Tryz.prog 187 ty187 := fun cs h => by cases h; exact ⟨rfl, fun w => ⟨.int .i64 0, by kernel_rfl, by kernel_rfl⟩⟩
theorem tp187 : PlOk Tryz.prog 187 ty187 := fun cs h => by cases h
theorem te187 : EqOk Tryz.prog 187 ty187 := fun cs h => by cases h
theorem tz189 : ZrOk Tryz.prog 189 ty189 := fun cs h => by cases h; exact ⟨rfl, fun w => ⟨.nilFunc, by kernel_rfl, by kernel_rfl⟩⟩
theorem tp189 : PlOk Tryz.prog 189 ty189 := fun cs h => by cases h
theorem te189 : EqOk Tryz.prog 189 ty189 := fun cs h => by cases h
theorem tz190 : ZrOk Tryz.prog 190 ty190 := fun cs h => by cases h; exact ⟨rfl, fun w => ⟨.nilFunc, by kernel_rfl, by kernel_rfl⟩⟩
theorem tp190 : PlOk Tryz.prog 190 ty190 := fun cs h => by cases h
theorem te190 : EqOk Tryz.prog 190 ty190 := fun cs h => by cases h
theorem tz191 : ZrOk Tryz.prog 191 ty191 := fun cs h => by cases h; exact ⟨rfl, fun w => ⟨.nilFunc, by kernel_rfl, by kernel_rfl⟩⟩
theorem tp191 : PlOk Tryz.prog 191 ty191 := fun cs h => by cases h
theorem te191 : EqOk Tryz.prog 191 ty191 := fun cs h => by cases h
theorem tz193 : ZrOk Tryz.prog 193 ty193 := fun cs h => by cases h; exact ⟨rfl, fun w => ⟨.nilFunc, by kernel_rfl, by kernel_rfl⟩⟩
theorem tp193 : PlOk Tryz.prog 193 ty193 := fun cs h => by cases h
theorem te193 : EqOk Tryz.prog 193 ty193 := fun cs h => by cases h
theorem tz194 : ZrOk Tryz.prog 194 ty194 := fun cs h => by cases h; exact ⟨rfl, fun w => ⟨.nilFunc, by kernel_rfl, by kernel_rfl⟩⟩
theorem tp194 : PlOk Tryz.prog 194 ty194 := fun cs h => by cases h
theorem te194 : EqOk Tryz.prog 194 ty194 := fun cs h => by cases h
theorem tz195 : ZrOk Tryz.prog 195 ty195 := fun cs h => by cases h; exact ⟨rfl, fun w => ⟨.nilFunc, by kernel_rfl, by kernel_rfl⟩⟩
theorem tp195 : PlOk Tryz.prog 195 ty195 := fun cs h => by cases h
theorem te195 : EqOk Tryz.prog 195 ty195 := fun cs h => by cases h
theorem tz196 : ZrOk Tryz.prog 196 ty196 := fun cs h => by cases h; exact ⟨rfl, fun w => ⟨.int .u64 0, by kernel_rfl, by kernel_rfl⟩⟩
theorem tp196 : PlOk Tryz.prog 196 ty196 := fun cs h => by cases h
theorem te196 : EqOk Tryz.prog 196 ty196 := fun cs h => by cases h
theorem tz197 : ZrOk Tryz.prog 197 ty197 := fun cs h => by cases h; exact ⟨rfl, fun w => ⟨.agg #[.int .i64 0, .int .i64 0, .int .i64 0, .int .i64 0, .int .i64 0, .int .i64 0, .int .i64 0, .int .i64 0, .int .i64 0], by kernel_rfl, by kernel_rfl⟩⟩
theorem tp197 : PlOk Tryz.prog 197 ty197 := fun cs h => by cases h
theorem te197 : EqOk Tryz.prog 197 ty197 := fun cs h => by cases h
theorem tz198 : ZrOk Tryz.prog 198 ty198 := fun cs h => by cases h; exact ⟨rfl, fun w => ⟨.nilFunc, by kernel_rfl, by kernel_rfl⟩⟩
theorem tp198 : PlOk Tryz.prog 198 ty198 := fun cs h => by cases h
theorem te198 : EqOk Tryz.prog 198 ty198 := fun cs h => by cases h
theorem tz199 : ZrOk Tryz.prog 199 ty199 := fun cs h => by cases h; exact ⟨rfl, fun w => ⟨.nilFunc, by kernel_rfl, by kernel_rfl⟩⟩
theorem tp199 : PlOk Tryz.prog 199 ty199 := fun cs h => by cases h
theorem te199 : EqOk Tryz.prog 199 ty199 := fun cs h => by cases h
theorem tz201 : ZrOk Tryz.prog 201 ty201 := fun cs h => by cases h; exact ⟨rfl, fun w => ⟨.nilFunc, by kernel_rfl, by kernel_rfl⟩⟩
theorem tp201 : PlOk Tryz.prog 201 ty201 := fun cs h => by cases h
theorem te201 : EqOk Tryz.prog 201 ty201 := fun cs h => by cases h
theorem tz203 : ZrOk Tryz.prog 203 ty203 := fun cs h => by cases h; exact ⟨rfl, fun w => ⟨.nilFunc, by kernel_rfl, by kernel_rfl⟩⟩
theorem tp203 : PlOk Tryz.prog 203 ty203 := fun cs h => by cases h
theorem te203 : EqOk Tryz.prog 203 ty203 := fun cs h => by cases h
theorem tz204 : ZrOk Tryz.prog 204 ty204 := fun cs h => by cases h; exact ⟨rfl, fun w => ⟨.agg #[.int .i64 0, .int .i64 0], by kernel_rfl, by kernel_rfl⟩⟩
theorem tp204 : PlOk Tryz.prog 204 ty204 := fun cs h => by cases h; exact ⟨_, Tryz.underlying204, fun w => by kernel_rfl⟩
theorem te204 : EqOk Tryz.prog 204 ty204 := fun cs h => by cases h; exact eqTy_two (f := { name := "Hi", type := 3, offset := 0, embedded := false, tag := "", pkgPath := "", byteOffset := 0 }) (g := { name := "Lo", type := 3, offset := 1, embedded := false, tag := "", pkgPath := "", byteOffset := 8 }) (by kernel_rfl) (by kernel_rfl) (by kernel_rfl) (by kernel_rfl) (by decide) (by decide) (by kernel_rfl) (by kernel_rfl) (fun x y w => by kernel_rfl) (fun x y w => by kernel_rfl)
theorem tz205 : ZrOk Tryz.prog 205 ty205 := fun cs h => by cases h; exact ⟨rfl, fun w => ⟨.agg #[.int .i64 0, .int .i64 0], by kernel_rfl, by kernel_rfl⟩⟩
theorem tp205 : PlOk Tryz.prog 205 ty205 := fun cs h => by cases h; exact ⟨_, Tryz.underlying205, fun w => by kernel_rfl⟩
theorem te205 : EqOk Tryz.prog 205 ty205 := fun cs h => by cases h; exact eqTy_two (f := { name := "Hi", type := 3, offset := 0, embedded := false, tag := "", pkgPath := "", byteOffset := 0 }) (g := { name := "Lo", type := 3, offset := 1, embedded := false, tag := "", pkgPath := "", byteOffset := 8 }) (by kernel_rfl) (by kernel_rfl) (by kernel_rfl) (by kernel_rfl) (by decide) (by decide) (by kernel_rfl) (by kernel_rfl) (fun x y w => by kernel_rfl) (fun x y w => by kernel_rfl)
theorem tz207 : ZrOk Tryz.prog 207 ty207 := fun cs h => by cases h; exact ⟨rfl, fun w => ⟨.nilFunc, by kernel_rfl, by kernel_rfl⟩⟩
theorem tp207 : PlOk Tryz.prog 207 ty207 := fun cs h => by cases h
theorem te207 : EqOk Tryz.prog 207 ty207 := fun cs h => by cases h
theorem tz208 : ZrOk Tryz.prog 208 ty208 := fun cs h => by cases h; exact ⟨rfl, fun w => ⟨.nilFunc, by kernel_rfl, by kernel_rfl⟩⟩
theorem tp208 : PlOk Tryz.prog 208 ty208 := fun cs h => by cases h
theorem te208 : EqOk Tryz.prog 208 ty208 := fun cs h => by cases h
theorem tz209 : ZrOk Tryz.prog 209 ty209 := fun cs h => by cases h; exact ⟨rfl, fun w => ⟨.nilFunc, by kernel_rfl, by kernel_rfl⟩⟩
theorem tp209 : PlOk Tryz.prog 209 ty209 := fun cs h => by cases h
theorem te209 : EqOk Tryz.prog 209 ty209 := fun cs h => by cases h
theorem tz210 : ZrOk Tryz.prog 210 ty210 := fun cs h => by cases h; exact ⟨rfl, fun w => ⟨.nilFunc, by kernel_rfl, by kernel_rfl⟩⟩
theorem tp210 : PlOk Tryz.prog 210 ty210 := fun cs h => by cases h
theorem te210 : EqOk Tryz.prog 210 ty210 := fun cs h => by cases h
theorem tz211 : ZrOk Tryz.prog 211 ty211 := fun cs h => by cases h; exact ⟨rfl, fun w => ⟨.nilFunc, by kernel_rfl, by kernel_rfl⟩⟩
theorem tp211 : PlOk Tryz.prog 211 ty211 := fun cs h => by cases h
theorem te211 : EqOk Tryz.prog 211 ty211 := fun cs h => by cases h
theorem tz212 : ZrOk Tryz.prog 212 ty212 := fun cs h => by cases h; exact ⟨rfl, fun w => ⟨.pointer none, by kernel_rfl, by kernel_rfl⟩⟩
theorem tp212 : PlOk Tryz.prog 212 ty212 := fun cs h => by cases h
theorem te212 : EqOk Tryz.prog 212 ty212 := fun cs h => by cases h
theorem tz213 : ZrOk Tryz.prog 213 ty213 := fun cs h => by cases h; exact ⟨rfl, fun w => ⟨.nilFunc, by kernel_rfl, by kernel_rfl⟩⟩
theorem tp213 : PlOk Tryz.prog 213 ty213 := fun cs h => by cases h
theorem te213 : EqOk Tryz.prog 213 ty213 := fun cs h => by cases h
theorem tz214 : ZrOk Tryz.prog 214 ty214 := fun cs h => by cases h; exact ⟨rfl, fun w => ⟨.nilFunc, by kernel_rfl, by kernel_rfl⟩⟩
theorem tp214 : PlOk Tryz.prog 214 ty214 := fun cs h => by cases h
theorem te214 : EqOk Tryz.prog 214 ty214 := fun cs h => by cases h
theorem tz215 : ZrOk Tryz.prog 215 ty215 := fun cs h => by cases h; exact ⟨rfl, fun w => ⟨.int .u64 0, by kernel_rfl, by kernel_rfl⟩⟩
theorem tp215 : PlOk Tryz.prog 215 ty215 := fun cs h => by cases h
theorem te215 : EqOk Tryz.prog 215 ty215 := fun cs h => by cases h
theorem tz216 : ZrOk Tryz.prog 216 ty216 := fun cs h => by cases h; exact ⟨rfl, fun w => ⟨.nilFunc, by kernel_rfl, by kernel_rfl⟩⟩
theorem tp216 : PlOk Tryz.prog 216 ty216 := fun cs h => by cases h
theorem te216 : EqOk Tryz.prog 216 ty216 := fun cs h => by cases h
theorem tz217 : ZrOk Tryz.prog 217 ty217 := fun cs h => by cases h; exact ⟨rfl, fun w => ⟨.nilFunc, by kernel_rfl, by kernel_rfl⟩⟩
theorem tp217 : PlOk Tryz.prog 217 ty217 := fun cs h => by cases h
theorem te217 : EqOk Tryz.prog 217 ty217 := fun cs h => by cases h
theorem tz218 : ZrOk Tryz.prog 218 ty218 := fun cs h => by cases h; exact ⟨rfl, fun w => ⟨.nilFunc, by kernel_rfl, by kernel_rfl⟩⟩
theorem tp218 : PlOk Tryz.prog 218 ty218 := fun cs h => by cases h
theorem te218 : EqOk Tryz.prog 218 ty218 := fun cs h => by cases h
theorem tz219 : ZrOk Tryz.prog 219 ty219 := fun cs h => by cases h; exact ⟨rfl, fun w => ⟨.pointer none, by kernel_rfl, by kernel_rfl⟩⟩
theorem tp219 : PlOk Tryz.prog 219 ty219 := fun cs h => by cases h
theorem te219 : EqOk Tryz.prog 219 ty219 := fun cs h => by cases h
theorem tz220 : ZrOk Tryz.prog 220 ty220 := fun cs h => by cases h; exact ⟨rfl, fun w => ⟨.nilFunc, by kernel_rfl, by kernel_rfl⟩⟩
theorem tp220 : PlOk Tryz.prog 220 ty220 := fun cs h => by cases h
theorem te220 : EqOk Tryz.prog 220 ty220 := fun cs h => by cases h
theorem tz221 : ZrOk Tryz.prog 221 ty221 := fun cs h => by cases h; exact ⟨rfl, fun w => ⟨.nilFunc, by kernel_rfl, by kernel_rfl⟩⟩
theorem tp221 : PlOk Tryz.prog 221 ty221 := fun cs h => by cases h
theorem te221 : EqOk Tryz.prog 221 ty221 := fun cs h => by cases h
theorem tz222 : ZrOk Tryz.prog 222 ty222 := fun cs h => by cases h; exact ⟨rfl, fun w => ⟨.nilFunc, by kernel_rfl, by kernel_rfl⟩⟩
theorem tp222 : PlOk Tryz.prog 222 ty222 := fun cs h => by cases h
theorem te222 : EqOk Tryz.prog 222 ty222 := fun cs h => by cases h
theorem tz223 : ZrOk Tryz.prog 223 ty223 := fun cs h => by cases h; exact ⟨rfl, fun w => ⟨.agg #[.int .i64 0, .int .i64 0], by kernel_rfl, by kernel_rfl⟩⟩
theorem tp223 : PlOk Tryz.prog 223 ty223 := fun cs h => by cases h
theorem te223 : EqOk Tryz.prog 223 ty223 := fun cs h => by cases h
theorem tz224 : ZrOk Tryz.prog 224 ty224 := fun cs h => by cases h; exact ⟨rfl, fun w => ⟨.nilFunc, by kernel_rfl, by kernel_rfl⟩⟩
theorem tp224 : PlOk Tryz.prog 224 ty224 := fun cs h => by cases h
theorem te224 : EqOk Tryz.prog 224 ty224 := fun cs h => by cases h
theorem tz225 : ZrOk Tryz.prog 225 ty225 := fun cs h => by cases h; exact ⟨rfl, fun w => ⟨.nilFunc, by kernel_rfl, by kernel_rfl⟩⟩
theorem tp225 : PlOk Tryz.prog 225 ty225 := fun cs h => by cases h
theorem te225 : EqOk Tryz.prog 225 ty225 := fun cs h => by cases h
theorem tz226 : ZrOk Tryz.prog 226 ty226 := fun cs h => by cases h; exact ⟨rfl, fun w => ⟨.nilFunc, by kernel_rfl, by kernel_rfl⟩⟩
theorem tp226 : PlOk Tryz.prog 226 ty226 := fun cs h => by cases h
theorem te226 : EqOk Tryz.prog 226 ty226 := fun cs h => by cases h
theorem tz227 : ZrOk Tryz.prog 227 ty227 := fun cs h => by cases h; exact ⟨rfl, fun w => ⟨.nilFunc, by kernel_rfl, by kernel_rfl⟩⟩
theorem tp227 : PlOk Tryz.prog 227 ty227 := fun cs h => by cases h
theorem te227 : EqOk Tryz.prog 227 ty227 := fun cs h => by cases h
theorem tz228 : ZrOk Tryz.prog 228 ty228 := fun cs h => by cases h; exact ⟨rfl, fun w => ⟨.pointer none, by kernel_rfl, by kernel_rfl⟩⟩
theorem tp228 : PlOk Tryz.prog 228 ty228 := fun cs h => by cases h
theorem te228 : EqOk Tryz.prog 228 ty228 := fun cs h => by cases h
theorem tz229 : ZrOk Tryz.prog 229 ty229 := fun cs h => by cases h; exact ⟨rfl, fun w => ⟨.nilFunc, by kernel_rfl, by kernel_rfl⟩⟩
theorem tp229 : PlOk Tryz.prog 229 ty229 := fun cs h => by cases h
theorem te229 : EqOk Tryz.prog 229 ty229 := fun cs h => by cases h
theorem tz230 : ZrOk Tryz.prog 230 ty230 := fun cs h => by cases h; exact ⟨rfl, fun w => ⟨.pointer none, by kernel_rfl, by kernel_rfl⟩⟩
theorem tp230 : PlOk Tryz.prog 230 ty230 := fun cs h => by cases h
theorem te230 : EqOk Tryz.prog 230 ty230 := fun cs h => by cases h
theorem tz231 : ZrOk Tryz.prog 231 ty231 := fun cs h => by cases h; exact ⟨rfl, fun w => ⟨.nilFunc, by kernel_rfl, by kernel_rfl⟩⟩
theorem tp231 : PlOk Tryz.prog 231 ty231 := fun cs h => by cases h
theorem te231 : EqOk Tryz.prog 231 ty231 := fun cs h => by cases h
theorem tz232 : ZrOk Tryz.prog 232 ty232 := fun cs h => by cases h; exact ⟨rfl, fun w => ⟨.pointer none, by kernel_rfl, by kernel_rfl⟩⟩
theorem tp232 : PlOk Tryz.prog 232 ty232 := fun cs h => by cases h
theorem te232 : EqOk Tryz.prog 232 ty232 := fun cs h => by cases h
theorem tz233 : ZrOk Tryz.prog 233 ty233 := fun cs h => by cases h; exact ⟨rfl, fun w => ⟨.nilFunc, by kernel_rfl, by kernel_rfl⟩⟩
theorem tp233 : PlOk Tryz.prog 233 ty233 := fun cs h => by cases h
theorem te233 : EqOk Tryz.prog 233 ty233 := fun cs h => by cases h
theorem tz234 : ZrOk Tryz.prog 234 ty234 := fun cs h => by cases h; exact ⟨rfl, fun w => ⟨.nilFunc, by kernel_rfl, by kernel_rfl⟩⟩
theorem tp234 : PlOk Tryz.prog 234 ty234 := fun cs h => by cases h
theorem te234 : EqOk Tryz.prog 234 ty234 := fun cs h => by cases h
theorem tz235 : ZrOk Tryz.prog 235 ty235 := fun cs h => by cases h; exact ⟨rfl, fun w => ⟨.pointer none, by kernel_rfl, by kernel_rfl⟩⟩
theorem tp235 : PlOk Tryz.prog 235 ty235 := fun cs h => by cases h
theorem te235 : EqOk Tryz.prog 235 ty235 := fun cs h => by cases h
theorem tz236 : ZrOk Tryz.prog 236 ty236 := fun cs h => by cases h; exact ⟨rfl, fun w => ⟨.nilFunc, by kernel_rfl, by kernel_rfl⟩⟩
theorem tp236 : PlOk Tryz.prog 236 ty236 := fun cs h => by cases h
theorem te236 : EqOk Tryz.prog 236 ty236 := fun cs h => by cases h
theorem tz237 : ZrOk Tryz.prog 237 ty237 := fun cs h => by cases h; exact ⟨rfl, fun w => ⟨.nilFunc, by kernel_rfl, by kernel_rfl⟩⟩
theorem tp237 : PlOk Tryz.prog 237 ty237 := fun cs h => by cases h
theorem te237 : EqOk Tryz.prog 237 ty237 := fun cs h => by cases h
theorem tz238 : ZrOk Tryz.prog 238 ty238 := fun cs h => by cases h; exact ⟨rfl, fun w => ⟨.nilFunc, by kernel_rfl, by kernel_rfl⟩⟩
theorem tp238 : PlOk Tryz.prog 238 ty238 := fun cs h => by cases h
theorem te238 : EqOk Tryz.prog 238 ty238 := fun cs h => by cases h
theorem tz239 : ZrOk Tryz.prog 239 ty239 := fun cs h => by cases h; exact ⟨rfl, fun w => ⟨.nilFunc, by kernel_rfl, by kernel_rfl⟩⟩
theorem tp239 : PlOk Tryz.prog 239 ty239 := fun cs h => by cases h
theorem te239 : EqOk Tryz.prog 239 ty239 := fun cs h => by cases h
theorem tz240 : ZrOk Tryz.prog 240 ty240 := fun cs h => by cases h; exact ⟨rfl, fun w => ⟨.nilFunc, by kernel_rfl, by kernel_rfl⟩⟩
theorem tp240 : PlOk Tryz.prog 240 ty240 := fun cs h => by cases h
theorem te240 : EqOk Tryz.prog 240 ty240 := fun cs h => by cases h
theorem tz241 : ZrOk Tryz.prog 241 ty241 := fun cs h => by cases h; exact ⟨rfl, fun w => ⟨.nilFunc, by kernel_rfl, by kernel_rfl⟩⟩
theorem tp241 : PlOk Tryz.prog 241 ty241 := fun cs h => by cases h
theorem te241 : EqOk Tryz.prog 241 ty241 := fun cs h => by cases h
theorem tz247 : ZrOk Tryz.prog 247 ty247 := fun cs h => by cases h; exact ⟨rfl, fun w => ⟨.nilFunc, by kernel_rfl, by kernel_rfl⟩⟩
theorem tp247 : PlOk Tryz.prog 247 ty247 := fun cs h => by cases h
theorem te247 : EqOk Tryz.prog 247 ty247 := fun cs h => by cases h
theorem tz250 : ZrOk Tryz.prog 250 ty250 := fun cs h => by cases h; exact ⟨rfl, fun w => ⟨.nilFunc, by kernel_rfl, by kernel_rfl⟩⟩
theorem tp250 : PlOk Tryz.prog 250 ty250 := fun cs h => by cases h
theorem te250 : EqOk Tryz.prog 250 ty250 := fun cs h => by cases h
theorem tz251 : ZrOk Tryz.prog 251 ty251 := fun cs h => by cases h; exact ⟨rfl, fun w => ⟨.pointer none, by kernel_rfl, by kernel_rfl⟩⟩
theorem tp251 : PlOk Tryz.prog 251 ty251 := fun cs h => by cases h
theorem te251 : EqOk Tryz.prog 251 ty251 := fun cs h => by cases h
theorem tabE : Fe.LT.Each (fun t q => ZrOk Tryz.prog t q ∧ PlOk Tryz.prog t q ∧ EqOk Tryz.prog t q) tabT := ⟨⟨tz131, tp131, te131⟩, ⟨⟨tz75, tp75, te75⟩, ⟨⟨tz46, tp46, te46⟩, ⟨⟨tz27, tp27, te27⟩, ⟨⟨tz12, tp12, te12⟩, ⟨⟨tz4, tp4, te4⟩, ⟨⟨tz2, tp2, te2⟩, ⟨⟨tz1, tp1, te1⟩, trivial, trivial⟩, ⟨⟨tz3, tp3, te3⟩, trivial, trivial⟩⟩, ⟨⟨tz7, tp7, te7⟩, ⟨⟨tz5, tp5, te5⟩, trivial, trivial⟩, trivial⟩⟩, ⟨⟨tz24, tp24, te24⟩, ⟨⟨tz22, tp22, te22⟩, ⟨⟨tz21, tp21, te21⟩, trivial, trivial⟩, ⟨⟨tz23, tp23, te23⟩, trivial, trivial⟩⟩, ⟨⟨tz26, tp26, te26⟩, ⟨⟨tz25, tp25, te25⟩, trivial, trivial⟩, trivial⟩⟩⟩, ⟨⟨tz38, tp38, te38⟩, ⟨⟨tz34, tp34, te34⟩, ⟨⟨tz29, tp29, te29⟩, ⟨⟨tz28, tp28, te28⟩, trivial, trivial⟩, ⟨⟨tz31, tp31, te31⟩, trivial, trivial⟩⟩, ⟨⟨tz37, tp37, te37⟩, ⟨⟨tz35, tp35, te35⟩, trivial, trivial⟩, trivial⟩⟩, ⟨⟨tz41, tp41, te41⟩, ⟨⟨tz40, tp40, te40⟩, ⟨⟨tz39, tp39, te39⟩, trivial, trivial⟩, trivial⟩, ⟨⟨tz45, tp45, te45⟩, ⟨⟨tz43, tp43, te43⟩, trivial, trivial⟩, trivial⟩⟩⟩⟩, ⟨⟨tz62, tp62, te62⟩, ⟨⟨tz54, tp54, te54⟩, ⟨⟨tz51, tp51, te51⟩, ⟨⟨tz49, tp49, te49⟩, ⟨⟨tz47, tp47, te47⟩, trivial, trivial⟩, ⟨⟨tz50, tp50, te50⟩, trivial, trivial⟩⟩, ⟨⟨tz53, tp53, te53⟩, ⟨⟨tz52, tp52, te52⟩, trivial, trivial⟩, trivial⟩⟩, ⟨⟨tz58, tp58, te58⟩, ⟨⟨tz57, tp57, te57⟩, ⟨⟨tz56, tp56, te56⟩, trivial, trivial⟩, trivial⟩, ⟨⟨tz60, tp60, te60⟩, ⟨⟨tz59, tp59, te59⟩, trivial, trivial⟩, trivial⟩⟩⟩, ⟨⟨tz69, tp69, te69⟩, ⟨⟨tz66, tp66, te66⟩, ⟨⟨tz64, tp64, te64⟩, ⟨⟨tz63, tp63, te63⟩, trivial, trivial⟩, ⟨⟨tz65, tp65, te65⟩, trivial, trivial⟩⟩, ⟨⟨tz68, tp68, te68⟩, ⟨⟨tz67, tp67, te67⟩, trivial, trivial⟩, trivial⟩⟩, ⟨⟨tz72, tp72, te72⟩, ⟨⟨tz71, tp71, te71⟩, ⟨⟨tz70, tp70, te70⟩, trivial, trivial⟩, trivial⟩, ⟨⟨tz74, tp74, te74⟩, ⟨⟨tz73, tp73, te73⟩, trivial, trivial⟩, trivial⟩⟩⟩⟩⟩, ⟨⟨tz102, tp102, te102⟩, ⟨⟨tz88, tp88, te88⟩, ⟨⟨tz82, tp82, te82⟩, ⟨⟨tz79, tp79, te79⟩, ⟨⟨tz77, tp77, te77⟩, ⟨⟨tz76, tp76, te76⟩, trivial, trivial⟩, ⟨⟨tz78, tp78, te78⟩, trivial, trivial⟩⟩, ⟨⟨tz81, tp81, te81⟩, ⟨⟨tz80, tp80, te80⟩, trivial, trivial⟩, trivial⟩⟩, ⟨⟨tz85, tp85, te85⟩, ⟨⟨tz84, tp84, te84⟩, ⟨⟨tz83, tp83, te83⟩, trivial, trivial⟩, trivial⟩, ⟨⟨tz87, tp87, te87⟩, ⟨⟨tz86, tp86, te86⟩, trivial, trivial⟩, trivial⟩⟩⟩, ⟨⟨tz96, tp96, te96⟩, ⟨⟨tz93, tp93, te93⟩, ⟨⟨tz90, tp90, te90⟩, ⟨⟨tz89, tp89, te89⟩, trivial, trivial⟩, ⟨⟨tz91, tp91, te91⟩, trivial, trivial⟩⟩, ⟨⟨tz95, tp95, te95⟩, ⟨⟨tz94, tp94, te94⟩, trivial, trivial⟩, trivial⟩⟩, ⟨⟨tz99, tp99, te99⟩, ⟨⟨tz98, tp98, te98⟩, ⟨⟨tz97, tp97, te97⟩, trivial, trivial⟩, trivial⟩, ⟨⟨tz101, tp101, te101⟩, ⟨⟨tz100, tp100, te100⟩, trivial, trivial⟩, trivial⟩⟩⟩⟩, ⟨⟨tz117, tp117, te117⟩, ⟨⟨tz110, tp110, te110⟩, ⟨⟨tz107, tp107, te107⟩, ⟨⟨tz104, tp104, te104⟩, ⟨⟨tz103, tp103, te103⟩, trivial, trivial⟩, ⟨⟨tz105, tp105, te105⟩, trivial, trivial⟩⟩, ⟨⟨tz109, tp109, te109⟩, ⟨⟨tz108, tp108, te108⟩, trivial, trivial⟩, trivial⟩⟩, ⟨⟨tz114, tp114, te114⟩, ⟨⟨tz112, tp112, te112⟩, ⟨⟨tz111, tp111, te111⟩, trivial, trivial⟩, trivial⟩, ⟨⟨tz116, tp116, te116⟩, ⟨⟨tz115, tp115, te115⟩, trivial, trivial⟩, trivial⟩⟩⟩, ⟨⟨tz124, tp124, te124⟩, ⟨⟨tz121, tp121, te121⟩, ⟨⟨tz119, tp119, te119⟩, ⟨⟨tz118, tp118, te118⟩, trivial, trivial⟩, ⟨⟨tz120, tp120, te120⟩, trivial, trivial⟩⟩, ⟨⟨tz123, tp123, te123⟩, ⟨⟨tz122, tp122, te122⟩, trivial, trivial⟩, trivial⟩⟩, ⟨⟨tz127, tp127, te127⟩, ⟨⟨tz126, tp126, te126⟩, ⟨⟨tz125, tp125, te125⟩, trivial, trivial⟩, trivial⟩, ⟨⟨tz129, tp129, te129⟩, ⟨⟨tz128, tp128, te128⟩, trivial, trivial⟩, trivial⟩⟩⟩⟩⟩⟩, ⟨⟨tz189, tp189, te189⟩, ⟨⟨tz160, tp160, te160⟩, ⟨⟨tz146, tp146, te146⟩, ⟨⟨tz138, tp138, te138⟩, ⟨⟨tz135, tp135, te135⟩, ⟨⟨tz133, tp133, te133⟩, ⟨⟨tz132, tp132, te132⟩, trivial, trivial⟩, ⟨⟨tz134, tp134, te134⟩, trivial, trivial⟩⟩, ⟨⟨tz137, tp137, te137⟩, ⟨⟨tz136, tp136, te136⟩, trivial, trivial⟩, trivial⟩⟩, ⟨⟨tz143, tp143, te143⟩, ⟨⟨tz140, tp140, te140⟩, ⟨⟨tz139, tp139, te139⟩, trivial, trivial⟩, ⟨⟨tz141, tp141, te141⟩, trivial, trivial⟩⟩, ⟨⟨tz145, tp145, te145⟩, ⟨⟨tz144, tp144, te144⟩, trivial, trivial⟩, trivial⟩⟩⟩, ⟨⟨tz153, tp153, te153⟩, ⟨⟨tz150, tp150, te150⟩, ⟨⟨tz148, tp148, te148⟩, ⟨⟨tz147, tp147, te147⟩, trivial, trivial⟩, ⟨⟨tz149, tp149, te149⟩, trivial, trivial⟩⟩, ⟨⟨tz152, tp152, te152⟩, ⟨⟨tz151, tp151, te151⟩, trivial, trivial⟩, trivial⟩⟩, ⟨⟨tz157, tp157, te157⟩, ⟨⟨tz156, tp156, te156⟩, ⟨⟨tz154, tp154, te154⟩, trivial, trivial⟩, trivial⟩, ⟨⟨tz159, tp159, te159⟩, ⟨⟨tz158, tp158, te158⟩, trivial, trivial⟩, trivial⟩⟩⟩⟩, ⟨⟨tz175, tp175, te175⟩, ⟨⟨tz168, tp168, te168⟩, ⟨⟨tz164, tp164, te164⟩, ⟨⟨tz162, tp162, te162⟩, ⟨⟨tz161, tp161, te161⟩, trivial, trivial⟩, ⟨⟨tz163, tp163, te163⟩, trivial, trivial⟩⟩, ⟨⟨tz167, tp167, te167⟩, ⟨⟨tz165, tp165, te165⟩, trivial, trivial⟩, trivial⟩⟩, ⟨⟨tz172, tp172, te172⟩, ⟨⟨tz170, tp170, te170⟩, ⟨⟨tz169, tp169, te169⟩, trivial, trivial⟩, trivial⟩, ⟨⟨tz174, tp174, te174⟩, ⟨⟨tz173, tp173, te173⟩, trivial, trivial⟩, trivial⟩⟩⟩, ⟨⟨tz182, tp182, te182⟩, ⟨⟨tz179, tp179, te179⟩, ⟨⟨tz177, tp177, te177⟩, ⟨⟨tz176, tp176, te176⟩, trivial, trivial⟩, ⟨⟨tz178, tp178, te178⟩, trivial, trivial⟩⟩, ⟨⟨tz181, tp181, te181⟩, ⟨⟨tz180, tp180, te180⟩, trivial, trivial⟩, trivial⟩⟩, ⟨⟨tz185, tp185, te185⟩, ⟨⟨tz184, tp184, te184⟩, ⟨⟨tz183, tp183, te183⟩, trivial, trivial⟩, trivial⟩, ⟨⟨tz187, tp187, te187⟩, ⟨⟨tz186, tp186, te186⟩, trivial, trivial⟩, trivial⟩⟩⟩⟩⟩, ⟨⟨tz219, tp219, te219⟩, ⟨⟨tz205, tp205, te205⟩, ⟨⟨tz197, tp197, te197⟩, ⟨⟨tz194, tp194, te194⟩, ⟨⟨tz191, tp191, te191⟩, ⟨⟨tz190, tp190, te190⟩, trivial, trivial⟩, ⟨⟨tz193, tp193, te193⟩, trivial, trivial⟩⟩, ⟨⟨tz196, tp196, te196⟩, ⟨⟨tz195, tp195, te195⟩, trivial, trivial⟩, trivial⟩⟩, ⟨⟨tz201, tp201, te201⟩, ⟨⟨tz199, tp199, te199⟩, ⟨⟨tz198, tp198, te198⟩, trivial, trivial⟩, trivial⟩, ⟨⟨tz204, tp204, te204⟩, ⟨⟨tz203, tp203, te203⟩, trivial, trivial⟩, trivial⟩⟩⟩, ⟨⟨tz213, tp213, te213⟩, ⟨⟨tz210, tp210, te210⟩, ⟨⟨tz208, tp208, te208⟩, ⟨⟨tz207, tp207, te207⟩, trivial, trivial⟩, ⟨⟨tz209, tp209, te209⟩, trivial, trivial⟩⟩, ⟨⟨tz212, tp212, te212⟩, ⟨⟨tz211, tp211, te211⟩, trivial, trivial⟩, trivial⟩⟩, ⟨⟨tz216, tp216, te216⟩, ⟨⟨tz215, tp215, te215⟩, ⟨⟨tz214, tp214, te214⟩, trivial, trivial⟩, trivial⟩, ⟨⟨tz218, tp218, te218⟩, ⟨⟨tz217, tp217, te217⟩, trivial, trivial⟩, trivial⟩⟩⟩⟩, ⟨⟨tz232, tp232, te232⟩, ⟨⟨tz226, tp226, te226⟩, ⟨⟨tz223, tp223, te223⟩, ⟨⟨tz221, tp221, te221⟩, ⟨⟨tz220, tp220, te220⟩, trivial, trivial⟩, ⟨⟨tz222, tp222, te222⟩, trivial, trivial⟩⟩, ⟨⟨tz225, tp225, te225⟩, ⟨⟨tz224, tp224, te224⟩, trivial, trivial⟩, trivial⟩⟩, ⟨⟨tz229, tp229, te229⟩, ⟨⟨tz228, tp228, te228⟩, ⟨⟨tz227, tp227, te227⟩, trivial, trivial⟩, trivial⟩, ⟨⟨tz231, tp231, te231⟩, ⟨⟨tz230, tp230, te230⟩, trivial, trivial⟩, trivial⟩⟩⟩, ⟨⟨tz239, tp239, te239⟩, ⟨⟨tz236, tp236, te236⟩, ⟨⟨tz234, tp234, te234⟩, ⟨⟨tz233, tp233, te233⟩, trivial, trivial⟩, ⟨⟨tz235, tp235, te235⟩, trivial, trivial⟩⟩, ⟨⟨tz238, tp238, te238⟩, ⟨⟨tz237, tp237, te237⟩, trivial, trivial⟩, trivial⟩⟩, ⟨⟨tz247, tp247, te247⟩, ⟨⟨tz241, tp241, te241⟩, ⟨⟨tz240, tp240, te240⟩, trivial, trivial⟩, trivial⟩, ⟨⟨tz251, tp251, te251⟩, ⟨⟨tz250, tp250, te250⟩, trivial, trivial⟩, trivial⟩⟩⟩⟩⟩⟩⟩
theorem tabOk : TabOk Tryz.prog tab := tabOk_of (by kernel_rfl) tabE
theorem mixed : Tryz.prog.follows .mixedOrders = true := by kernel_rfl
end Go.Proofs.YtfplfbaebiaanaaGreat
