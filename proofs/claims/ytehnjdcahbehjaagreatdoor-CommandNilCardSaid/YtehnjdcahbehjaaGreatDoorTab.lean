/- The types of the program, as the engine reads them; each row is held against the program by the kernel. -/
import Derived.Test.YtehnjdcahbehjaaGreatDoorEngE
import Derived.Test.YtehnjdcahbehjaaGreatDoorProg
namespace Go.Proofs.YtehnjdcahbehjaaGreatDoor
open Go Go.Eng
set_option maxRecDepth 100000
def ti1 : TI := ⟨1, 8, .other, [.val .nilFunc]⟩
def ti2 : TI := ⟨1, 8, (.int .i64), [.lit .i64 0]⟩
def ti3 : TI := ⟨1, 8, (.int .i64), [.lit .i64 0]⟩
def ti4 : TI := ⟨1, 1, .bool, [.ff]⟩
def ti5 : TI := ⟨1, 1, (.int .u8), [.lit .u8 0]⟩
def ti6 : TI := ⟨1, 1, (.int .u8), [.lit .u8 0]⟩
def ti7 : TI := ⟨4, 24, (.struct [(0, 2), (1, 3), (2, 4), (3, 6)]), [.lit .i64 0, .lit .i64 0, .ff, .lit .u8 0]⟩
def ti8 : TI := ⟨4, 24, (.struct [(0, 2), (1, 3), (2, 4), (3, 6)]), [.lit .i64 0, .lit .i64 0, .ff, .lit .u8 0]⟩
def ti9 : TI := ⟨1, 16, .string, [.str ByteArray.empty]⟩
def ti10 : TI := ⟨1, 16, .string, [.str ByteArray.empty]⟩
def ti11 : TI := ⟨1, 16, .string, [.str ByteArray.empty]⟩
def ti12 : TI := ⟨1, 8, (.int .u64), [.lit .u64 0]⟩
def ti15 : TI := ⟨1, 8, (.pointer 502), [.val (.pointer none)]⟩
def ti16 : TI := ⟨1, 8, (.pointer 505), [.val (.pointer none)]⟩
def ti17 : TI := ⟨1, 8, (.pointer 512), [.val (.pointer none)]⟩
def ti20 : TI := ⟨1, 16, .other, [.val .nilIface]⟩
def ti21 : TI := ⟨1, 4, (.int .i32), [.lit .i32 0]⟩
def ti22 : TI := ⟨1, 24, (.slice 9), [.val (.slice none 0 0)]⟩
def ti23 : TI := ⟨1, 8, .other, [.val .nilFunc]⟩
def ti24 : TI := ⟨1, 8, .other, [.val .nilFunc]⟩
def ti25 : TI := ⟨6, 80, (.struct [(0, 9), (1, 9), (2, 9), (3, 9), (4, 3), (5, 3)]), [.str ByteArray.empty, .str ByteArray.empty, .str ByteArray.empty, .str ByteArray.empty, .lit .i64 0, .lit .i64 0]⟩
def ti26 : TI := ⟨6, 80, (.struct [(0, 9), (1, 9), (2, 9), (3, 9), (4, 3), (5, 3)]), [.str ByteArray.empty, .str ByteArray.empty, .str ByteArray.empty, .str ByteArray.empty, .lit .i64 0, .lit .i64 0]⟩
def ti27 : TI := ⟨1, 8, (.int .i64), [.lit .i64 0]⟩
def ti29 : TI := ⟨1, 8, .other, [.val .nilFunc]⟩
def ti30 : TI := ⟨4, 56, (.struct [(0, 3), (1, 9), (2, 3), (3, 22)]), [.lit .i64 0, .str ByteArray.empty, .lit .i64 0, .val (.slice none 0 0)]⟩
def ti31 : TI := ⟨4, 56, (.struct [(0, 3), (1, 9), (2, 3), (3, 22)]), [.lit .i64 0, .str ByteArray.empty, .lit .i64 0, .val (.slice none 0 0)]⟩
def ti32 : TI := ⟨2, 16, (.struct [(0, 3), (1, 3)]), [.lit .i64 0, .lit .i64 0]⟩
def ti33 : TI := ⟨2, 16, (.struct [(0, 3), (1, 3)]), [.lit .i64 0, .lit .i64 0]⟩
def ti34 : TI := ⟨7, 80, (.struct [(0, 3), (1, 9), (2, 9), (3, 9), (4, 3), (5, 33)]), [.lit .i64 0, .str ByteArray.empty, .str ByteArray.empty, .str ByteArray.empty, .lit .i64 0, .lit .i64 0, .lit .i64 0]⟩
def ti35 : TI := ⟨7, 80, (.struct [(0, 3), (1, 9), (2, 9), (3, 9), (4, 3), (5, 33)]), [.lit .i64 0, .str ByteArray.empty, .str ByteArray.empty, .str ByteArray.empty, .lit .i64 0, .lit .i64 0, .lit .i64 0]⟩
def ti37 : TI := ⟨1, 8, .other, [.val .nilFunc]⟩
def ti38 : TI := ⟨4, 56, (.struct [(0, 3), (1, 9), (2, 3), (3, 22)]), [.lit .i64 0, .str ByteArray.empty, .lit .i64 0, .val (.slice none 0 0)]⟩
def ti40 : TI := ⟨1, 8, .other, [.val .nilFunc]⟩
def ti41 : TI := ⟨6, 80, (.struct [(0, 9), (1, 9), (2, 9), (3, 9), (4, 3), (5, 3)]), [.str ByteArray.empty, .str ByteArray.empty, .str ByteArray.empty, .str ByteArray.empty, .lit .i64 0, .lit .i64 0]⟩
def ti42 : TI := ⟨1, 8, .other, [.val .nilFunc]⟩
def ti43 : TI := ⟨1, 24, (.slice 173), [.val (.slice none 0 0)]⟩
def ti44 : TI := ⟨1, 24, (.slice 175), [.val (.slice none 0 0)]⟩
def ti45 : TI := ⟨1, 24, (.slice 121), [.val (.slice none 0 0)]⟩
def ti46 : TI := ⟨8, 136, (.struct [(0, 3), (1, 9), (2, 4), (3, 3), (4, 22), (5, 43), (6, 44), (7, 45)]), [.lit .i64 0, .str ByteArray.empty, .ff, .lit .i64 0, .val (.slice none 0 0), .val (.slice none 0 0), .val (.slice none 0 0), .val (.slice none 0 0)]⟩
def ti47 : TI := ⟨8, 136, (.struct [(0, 3), (1, 9), (2, 4), (3, 3), (4, 22), (5, 43), (6, 44), (7, 45)]), [.lit .i64 0, .str ByteArray.empty, .ff, .lit .i64 0, .val (.slice none 0 0), .val (.slice none 0 0), .val (.slice none 0 0), .val (.slice none 0 0)]⟩
def ti48 : TI := ⟨1, 8, .other, [.val .nilFunc]⟩
def ti49 : TI := ⟨16, 128, (.array 16 3), [.lit .i64 0, .lit .i64 0, .lit .i64 0, .lit .i64 0, .lit .i64 0, .lit .i64 0, .lit .i64 0, .lit .i64 0, .lit .i64 0, .lit .i64 0, .lit .i64 0, .lit .i64 0, .lit .i64 0, .lit .i64 0, .lit .i64 0, .lit .i64 0]⟩
def ti50 : TI := ⟨16, 128, (.array 16 3), [.lit .i64 0, .lit .i64 0, .lit .i64 0, .lit .i64 0, .lit .i64 0, .lit .i64 0, .lit .i64 0, .lit .i64 0, .lit .i64 0, .lit .i64 0, .lit .i64 0, .lit .i64 0, .lit .i64 0, .lit .i64 0, .lit .i64 0, .lit .i64 0]⟩
def ti51 : TI := ⟨20, 176, (.struct [(0, 3), (1, 3), (2, 4), (3, 50), (19, 45)]), [.lit .i64 0, .lit .i64 0, .ff, .lit .i64 0, .lit .i64 0, .lit .i64 0, .lit .i64 0, .lit .i64 0, .lit .i64 0, .lit .i64 0, .lit .i64 0, .lit .i64 0, .lit .i64 0, .lit .i64 0, .lit .i64 0, .lit .i64 0, .lit .i64 0, .lit .i64 0, .lit .i64 0, .val (.slice none 0 0)]⟩
def ti52 : TI := ⟨20, 176, (.struct [(0, 3), (1, 3), (2, 4), (3, 50), (19, 45)]), [.lit .i64 0, .lit .i64 0, .ff, .lit .i64 0, .lit .i64 0, .lit .i64 0, .lit .i64 0, .lit .i64 0, .lit .i64 0, .lit .i64 0, .lit .i64 0, .lit .i64 0, .lit .i64 0, .lit .i64 0, .lit .i64 0, .lit .i64 0, .lit .i64 0, .lit .i64 0, .lit .i64 0, .val (.slice none 0 0)]⟩
def ti53 : TI := ⟨25, 232, (.struct [(0, 3), (1, 3), (2, 3), (3, 3), (4, 22), (5, 52)]), [.lit .i64 0, .lit .i64 0, .lit .i64 0, .lit .i64 0, .val (.slice none 0 0), .lit .i64 0, .lit .i64 0, .ff, .lit .i64 0, .lit .i64 0, .lit .i64 0, .lit .i64 0, .lit .i64 0, .lit .i64 0, .lit .i64 0, .lit .i64 0, .lit .i64 0, .lit .i64 0, .lit .i64 0, .lit .i64 0, .lit .i64 0, .lit .i64 0, .lit .i64 0, .lit .i64 0, .val (.slice none 0 0)]⟩
def ti54 : TI := ⟨25, 232, (.struct [(0, 3), (1, 3), (2, 3), (3, 3), (4, 22), (5, 52)]), [.lit .i64 0, .lit .i64 0, .lit .i64 0, .lit .i64 0, .val (.slice none 0 0), .lit .i64 0, .lit .i64 0, .ff, .lit .i64 0, .lit .i64 0, .lit .i64 0, .lit .i64 0, .lit .i64 0, .lit .i64 0, .lit .i64 0, .lit .i64 0, .lit .i64 0, .lit .i64 0, .lit .i64 0, .lit .i64 0, .lit .i64 0, .lit .i64 0, .lit .i64 0, .lit .i64 0, .val (.slice none 0 0)]⟩
def ti55 : TI := ⟨1, 8, .other, [.val .nilFunc]⟩
def ti56 : TI := ⟨1, 24, (.slice 54), [.val (.slice none 0 0)]⟩
def ti57 : TI := ⟨1, 8, (.pointer 61), [.val (.pointer none)]⟩
def ti58 : TI := ⟨1, 8, (.pointer 194), [.val (.pointer none)]⟩
def ti59 : TI := ⟨1, 8, (.pointer 128), [.val (.pointer none)]⟩
def ti60 : TI := ⟨4, 32, (.struct [(0, 3), (1, 3), (2, 58), (3, 59)]), [.lit .i64 0, .lit .i64 0, .val (.pointer none), .val (.pointer none)]⟩
def ti61 : TI := ⟨4, 32, (.struct [(0, 3), (1, 3), (2, 58), (3, 59)]), [.lit .i64 0, .lit .i64 0, .val (.pointer none), .val (.pointer none)]⟩
def ti62 : TI := ⟨1, 8, .other, [.val .nilFunc]⟩
def ti64 : TI := ⟨1, 8, .other, [.val .nilFunc]⟩
def ti66 : TI := ⟨1, 8, .other, [.val .nilFunc]⟩
def ti67 : TI := ⟨1, 8, .other, [.val .nilFunc]⟩
def ti68 : TI := ⟨1, 8, .other, [.val .nilFunc]⟩
def ti69 : TI := ⟨1, 24, (.slice 72), [.val (.slice none 0 0)]⟩
def ti70 : TI := ⟨1, 8, .other, [.val .nilFunc]⟩
def ti71 : TI := ⟨1, 8, .other, [.val .nilFunc]⟩
def ti72 : TI := ⟨20, 176, (.struct [(0, 3), (1, 3), (2, 4), (3, 50), (19, 45)]), [.lit .i64 0, .lit .i64 0, .ff, .lit .i64 0, .lit .i64 0, .lit .i64 0, .lit .i64 0, .lit .i64 0, .lit .i64 0, .lit .i64 0, .lit .i64 0, .lit .i64 0, .lit .i64 0, .lit .i64 0, .lit .i64 0, .lit .i64 0, .lit .i64 0, .lit .i64 0, .lit .i64 0, .val (.slice none 0 0)]⟩
def ti73 : TI := ⟨1, 8, .other, [.val .nilFunc]⟩
def ti74 : TI := ⟨6, 56, (.struct [(0, 3), (1, 3), (2, 3), (3, 3), (4, 3), (5, 9)]), [.lit .i64 0, .lit .i64 0, .lit .i64 0, .lit .i64 0, .lit .i64 0, .str ByteArray.empty]⟩
def ti75 : TI := ⟨6, 56, (.struct [(0, 3), (1, 3), (2, 3), (3, 3), (4, 3), (5, 9)]), [.lit .i64 0, .lit .i64 0, .lit .i64 0, .lit .i64 0, .lit .i64 0, .str ByteArray.empty]⟩
def ti76 : TI := ⟨1, 8, (.pointer 80), [.val (.pointer none)]⟩
def ti77 : TI := ⟨1, 24, (.slice 155), [.val (.slice none 0 0)]⟩
def ti78 : TI := ⟨1, 8, (.pointer 271), [.val (.pointer none)]⟩
def ti79 : TI := ⟨2, 32, (.struct [(0, 77), (1, 78)]), [.val (.slice none 0 0), .val (.pointer none)]⟩
def ti80 : TI := ⟨2, 32, (.struct [(0, 77), (1, 78)]), [.val (.slice none 0 0), .val (.pointer none)]⟩
def ti82 : TI := ⟨1, 8, .other, [.val .nilFunc]⟩
def ti83 : TI := ⟨1, 8, .other, [.val .nilFunc]⟩
def ti84 : TI := ⟨3, 32, (.struct [(0, 27), (1, 9), (2, 3)]), [.lit .i64 0, .str ByteArray.empty, .lit .i64 0]⟩
def ti85 : TI := ⟨3, 32, (.struct [(0, 27), (1, 9), (2, 3)]), [.lit .i64 0, .str ByteArray.empty, .lit .i64 0]⟩
def ti86 : TI := ⟨1, 8, .other, [.val .nilFunc]⟩
def ti87 : TI := ⟨6, 56, (.struct [(0, 3), (1, 3), (2, 3), (3, 3), (4, 3), (5, 9)]), [.lit .i64 0, .lit .i64 0, .lit .i64 0, .lit .i64 0, .lit .i64 0, .str ByteArray.empty]⟩
def ti88 : TI := ⟨1, 8, .other, [.val .nilFunc]⟩
def ti89 : TI := ⟨1, 8, .other, [.val .nilFunc]⟩
def ti90 : TI := ⟨1, 8, .other, [.val .nilFunc]⟩
def ti91 : TI := ⟨1, 8, .other, [.val .nilFunc]⟩
def ti92 : TI := ⟨2, 24, (.struct [(0, 9), (1, 3)]), [.str ByteArray.empty, .lit .i64 0]⟩
def ti93 : TI := ⟨2, 24, (.struct [(0, 9), (1, 3)]), [.str ByteArray.empty, .lit .i64 0]⟩
def ti95 : TI := ⟨1, 8, .other, [.val .nilFunc]⟩
def ti96 : TI := ⟨1, 8, .other, [.val .nilFunc]⟩
def ti97 : TI := ⟨1, 8, (.pointer 192), [.val (.pointer none)]⟩
def ti98 : TI := ⟨12, 144, (.struct [(0, 31), (4, 35), (11, 4)]), [.lit .i64 0, .str ByteArray.empty, .lit .i64 0, .val (.slice none 0 0), .lit .i64 0, .str ByteArray.empty, .str ByteArray.empty, .str ByteArray.empty, .lit .i64 0, .lit .i64 0, .lit .i64 0, .ff]⟩
def ti99 : TI := ⟨12, 144, (.struct [(0, 31), (4, 35), (11, 4)]), [.lit .i64 0, .str ByteArray.empty, .lit .i64 0, .val (.slice none 0 0), .lit .i64 0, .str ByteArray.empty, .str ByteArray.empty, .str ByteArray.empty, .lit .i64 0, .lit .i64 0, .lit .i64 0, .ff]⟩
def ti100 : TI := ⟨1, 8, .other, [.val .nilFunc]⟩
def ti102 : TI := ⟨1, 8, .other, [.val .nilFunc]⟩
def ti103 : TI := ⟨1, 8, .other, [.val .nilFunc]⟩
def ti104 : TI := ⟨1, 8, .other, [.val .nilFunc]⟩
def ti105 : TI := ⟨1, 8, .other, [.val .nilFunc]⟩
def ti106 : TI := ⟨1, 8, .other, [.val .nilFunc]⟩
def ti107 : TI := ⟨1, 8, .other, [.val .nilFunc]⟩
def ti108 : TI := ⟨1, 8, .other, [.val .nilFunc]⟩
def ti109 : TI := ⟨1, 8, .other, [.val .nilFunc]⟩
def ti110 : TI := ⟨1, 8, .other, [.val .nilFunc]⟩
def ti111 : TI := ⟨1, 8, .other, [.val .nilFunc]⟩
def ti112 : TI := ⟨1, 8, .other, [.val .nilFunc]⟩
def ti114 : TI := ⟨1, 8, .other, [.val .nilFunc]⟩
def ti115 : TI := ⟨1, 8, .other, [.val .nilFunc]⟩
def ti116 : TI := ⟨1, 8, .other, [.val .nilFunc]⟩
def ti117 : TI := ⟨1, 8, .other, [.val .nilFunc]⟩
def ti119 : TI := ⟨1, 8, .other, [.val .nilFunc]⟩
def ti120 : TI := ⟨26, 232, (.struct [(0, 33), (2, 3), (3, 50), (19, 35)]), [.lit .i64 0, .lit .i64 0, .lit .i64 0, .lit .i64 0, .lit .i64 0, .lit .i64 0, .lit .i64 0, .lit .i64 0, .lit .i64 0, .lit .i64 0, .lit .i64 0, .lit .i64 0, .lit .i64 0, .lit .i64 0, .lit .i64 0, .lit .i64 0, .lit .i64 0, .lit .i64 0, .lit .i64 0, .lit .i64 0, .str ByteArray.empty, .str ByteArray.empty, .str ByteArray.empty, .lit .i64 0, .lit .i64 0, .lit .i64 0]⟩
def ti121 : TI := ⟨26, 232, (.struct [(0, 33), (2, 3), (3, 50), (19, 35)]), [.lit .i64 0, .lit .i64 0, .lit .i64 0, .lit .i64 0, .lit .i64 0, .lit .i64 0, .lit .i64 0, .lit .i64 0, .lit .i64 0, .lit .i64 0, .lit .i64 0, .lit .i64 0, .lit .i64 0, .lit .i64 0, .lit .i64 0, .lit .i64 0, .lit .i64 0, .lit .i64 0, .lit .i64 0, .lit .i64 0, .str ByteArray.empty, .str ByteArray.empty, .str ByteArray.empty, .lit .i64 0, .lit .i64 0, .lit .i64 0]⟩
def ti122 : TI := ⟨1, 8, (.pointer 189), [.val (.pointer none)]⟩
def ti123 : TI := ⟨1, 8, (.pointer 243), [.val (.pointer none)]⟩
def ti124 : TI := ⟨1, 8, (.pointer 212), [.val (.pointer none)]⟩
def ti125 : TI := ⟨1, 8, (.pointer 226), [.val (.pointer none)]⟩
def ti126 : TI := ⟨1, 8, (.pointer 197), [.val (.pointer none)]⟩
def ti127 : TI := ⟨22, 176, (.struct [(0, 122), (1, 97), (2, 123), (3, 124), (4, 125), (5, 126), (6, 50)]), [.val (.pointer none), .val (.pointer none), .val (.pointer none), .val (.pointer none), .val (.pointer none), .val (.pointer none), .lit .i64 0, .lit .i64 0, .lit .i64 0, .lit .i64 0, .lit .i64 0, .lit .i64 0, .lit .i64 0, .lit .i64 0, .lit .i64 0, .lit .i64 0, .lit .i64 0, .lit .i64 0, .lit .i64 0, .lit .i64 0, .lit .i64 0, .lit .i64 0]⟩
def ti128 : TI := ⟨22, 176, (.struct [(0, 122), (1, 97), (2, 123), (3, 124), (4, 125), (5, 126), (6, 50)]), [.val (.pointer none), .val (.pointer none), .val (.pointer none), .val (.pointer none), .val (.pointer none), .val (.pointer none), .lit .i64 0, .lit .i64 0, .lit .i64 0, .lit .i64 0, .lit .i64 0, .lit .i64 0, .lit .i64 0, .lit .i64 0, .lit .i64 0, .lit .i64 0, .lit .i64 0, .lit .i64 0, .lit .i64 0, .lit .i64 0, .lit .i64 0, .lit .i64 0]⟩
def ti129 : TI := ⟨1, 8, .other, [.val .nilFunc]⟩
def ti130 : TI := ⟨1, 8, .other, [.val .nilFunc]⟩
def ti131 : TI := ⟨1, 8, .other, [.val .nilFunc]⟩
def ti132 : TI := ⟨1, 8, .other, [.val .nilFunc]⟩
def ti134 : TI := ⟨1, 8, .other, [.val .nilFunc]⟩
def ti135 : TI := ⟨1, 8, .other, [.val .nilFunc]⟩
def ti136 : TI := ⟨1, 8, .other, [.val .nilFunc]⟩
def ti137 : TI := ⟨1, 8, .other, [.val .nilFunc]⟩
def ti138 : TI := ⟨1, 8, .other, [.val .nilFunc]⟩
def ti139 : TI := ⟨1, 8, .other, [.val .nilFunc]⟩
def ti141 : TI := ⟨1, 8, .other, [.val .nilFunc]⟩
def ti142 : TI := ⟨1, 8, .other, [.val .nilFunc]⟩
def ti143 : TI := ⟨1, 8, .other, [.val .nilFunc]⟩
def ti144 : TI := ⟨1, 8, .other, [.val .nilFunc]⟩
def ti145 : TI := ⟨1, 8, .other, [.val .nilFunc]⟩
def ti146 : TI := ⟨1, 8, .other, [.val .nilFunc]⟩
def ti147 : TI := ⟨1, 8, .other, [.val .nilFunc]⟩
def ti148 : TI := ⟨1, 8, .other, [.val .nilFunc]⟩
def ti149 : TI := ⟨1, 8, .other, [.val .nilFunc]⟩
def ti150 : TI := ⟨1, 8, .other, [.val .nilFunc]⟩
def ti151 : TI := ⟨1, 8, .other, [.val .nilFunc]⟩
def ti153 : TI := ⟨1, 8, .other, [.val .nilFunc]⟩
def ti154 : TI := ⟨1, 8, .other, [.val .nilFunc]⟩
def ti155 : TI := ⟨1, 8, (.pointer 159), [.val (.pointer none)]⟩
def ti156 : TI := ⟨1, 8, .other, [.val .nilFunc]⟩
def ti157 : TI := ⟨1, 8, (.pointer 326), [.val (.pointer none)]⟩
def ti158 : TI := ⟨3, 24, (.struct [(0, 57), (1, 157), (2, 3)]), [.val (.pointer none), .val (.pointer none), .lit .i64 0]⟩
def ti159 : TI := ⟨3, 24, (.struct [(0, 57), (1, 157), (2, 3)]), [.val (.pointer none), .val (.pointer none), .lit .i64 0]⟩
def ti160 : TI := ⟨1, 8, .other, [.val .nilFunc]⟩
def ti161 : TI := ⟨1, 8, .other, [.val .nilFunc]⟩
def ti162 : TI := ⟨1, 24, (.slice 5), [.val (.slice none 0 0)]⟩
def ti163 : TI := ⟨1, 8, (.pointer 26), [.val (.pointer none)]⟩
def ti165 : TI := ⟨1, 8, .other, [.val .nilFunc]⟩
def ti166 : TI := ⟨1, 8, .other, [.val .nilFunc]⟩
def ti167 : TI := ⟨1, 8, .other, [.val .nilFunc]⟩
def ti168 : TI := ⟨1, 24, (.slice 3), [.val (.slice none 0 0)]⟩
def ti169 : TI := ⟨1, 8, .other, [.val .nilFunc]⟩
def ti170 : TI := ⟨1, 8, .other, [.val .nilFunc]⟩
def ti171 : TI := ⟨1, 8, .other, [.val .nilFunc]⟩
def ti172 : TI := ⟨2, 32, (.struct [(0, 9), (1, 9)]), [.str ByteArray.empty, .str ByteArray.empty]⟩
def ti173 : TI := ⟨2, 32, (.struct [(0, 9), (1, 9)]), [.str ByteArray.empty, .str ByteArray.empty]⟩
def ti174 : TI := ⟨2, 24, (.struct [(0, 9), (1, 3)]), [.str ByteArray.empty, .lit .i64 0]⟩
def ti175 : TI := ⟨2, 24, (.struct [(0, 9), (1, 3)]), [.str ByteArray.empty, .lit .i64 0]⟩
def ti176 : TI := ⟨1, 8, .other, [.val .nilFunc]⟩
def ti177 : TI := ⟨1, 8, .other, [.val .nilFunc]⟩
def ti178 : TI := ⟨1, 8, .other, [.val .nilFunc]⟩
def ti179 : TI := ⟨1, 8, .other, [.val .nilFunc]⟩
def ti180 : TI := ⟨1, 8, .other, [.val .nilFunc]⟩
def ti182 : TI := ⟨1, 8, .other, [.val .nilFunc]⟩
def ti183 : TI := ⟨1, 8, .other, [.val .nilFunc]⟩
def ti184 : TI := ⟨1, 8, .other, [.val .nilFunc]⟩
def ti185 : TI := ⟨1, 8, .other, [.val .nilFunc]⟩
def ti186 : TI := ⟨1, 8, .other, [.val .nilFunc]⟩
def ti187 : TI := ⟨1, 8, .other, [.val .nilFunc]⟩
def ti188 : TI := ⟨5, 64, (.struct [(0, 58), (1, 9), (2, 4), (3, 45), (4, 3)]), [.val (.pointer none), .str ByteArray.empty, .ff, .val (.slice none 0 0), .lit .i64 0]⟩
def ti189 : TI := ⟨5, 64, (.struct [(0, 58), (1, 9), (2, 4), (3, 45), (4, 3)]), [.val (.pointer none), .str ByteArray.empty, .ff, .val (.slice none 0 0), .lit .i64 0]⟩
def ti190 : TI := ⟨1, 8, (.map 9 198), [.val (.map none)]⟩
def ti191 : TI := ⟨18, 144, (.struct [(0, 190), (1, 50), (17, 3)]), [.val (.map none), .lit .i64 0, .lit .i64 0, .lit .i64 0, .lit .i64 0, .lit .i64 0, .lit .i64 0, .lit .i64 0, .lit .i64 0, .lit .i64 0, .lit .i64 0, .lit .i64 0, .lit .i64 0, .lit .i64 0, .lit .i64 0, .lit .i64 0, .lit .i64 0, .lit .i64 0]⟩
def ti192 : TI := ⟨18, 144, (.struct [(0, 190), (1, 50), (17, 3)]), [.val (.map none), .lit .i64 0, .lit .i64 0, .lit .i64 0, .lit .i64 0, .lit .i64 0, .lit .i64 0, .lit .i64 0, .lit .i64 0, .lit .i64 0, .lit .i64 0, .lit .i64 0, .lit .i64 0, .lit .i64 0, .lit .i64 0, .lit .i64 0, .lit .i64 0, .lit .i64 0]⟩
def ti193 : TI := ⟨3, 40, (.struct [(0, 162), (1, 3), (2, 3)]), [.val (.slice none 0 0), .lit .i64 0, .lit .i64 0]⟩
def ti194 : TI := ⟨3, 40, (.struct [(0, 162), (1, 3), (2, 3)]), [.val (.slice none 0 0), .lit .i64 0, .lit .i64 0]⟩
def ti195 : TI := ⟨1, 8, .other, [.val .nilFunc]⟩
def ti196 : TI := ⟨1, 24, (.struct [(0, 45)]), [.val (.slice none 0 0)]⟩
def ti197 : TI := ⟨1, 24, (.struct [(0, 45)]), [.val (.slice none 0 0)]⟩
def ti198 : TI := ⟨1, 8, (.pointer 206), [.val (.pointer none)]⟩
def ti199 : TI := ⟨1, 24, (.slice 237), [.val (.slice none 0 0)]⟩
def ti200 : TI := ⟨1, 24, (.struct [(0, 199)]), [.val (.slice none 0 0)]⟩
def ti201 : TI := ⟨1, 24, (.struct [(0, 199)]), [.val (.slice none 0 0)]⟩
def ti202 : TI := ⟨1, 24, (.slice 257), [.val (.slice none 0 0)]⟩
def ti203 : TI := ⟨1, 24, (.struct [(0, 202)]), [.val (.slice none 0 0)]⟩
def ti204 : TI := ⟨1, 24, (.struct [(0, 202)]), [.val (.slice none 0 0)]⟩
def ti205 : TI := ⟨2, 48, (.struct [(0, 201), (1, 204)]), [.val (.slice none 0 0), .val (.slice none 0 0)]⟩
def ti206 : TI := ⟨2, 48, (.struct [(0, 201), (1, 204)]), [.val (.slice none 0 0), .val (.slice none 0 0)]⟩
def ti207 : TI := ⟨28, 248, (.struct [(0, 121), (26, 33)]), [.lit .i64 0, .lit .i64 0, .lit .i64 0, .lit .i64 0, .lit .i64 0, .lit .i64 0, .lit .i64 0, .lit .i64 0, .lit .i64 0, .lit .i64 0, .lit .i64 0, .lit .i64 0, .lit .i64 0, .lit .i64 0, .lit .i64 0, .lit .i64 0, .lit .i64 0, .lit .i64 0, .lit .i64 0, .lit .i64 0, .str ByteArray.empty, .str ByteArray.empty, .str ByteArray.empty, .lit .i64 0, .lit .i64 0, .lit .i64 0, .lit .i64 0, .lit .i64 0]⟩
def ti208 : TI := ⟨28, 248, (.struct [(0, 121), (26, 33)]), [.lit .i64 0, .lit .i64 0, .lit .i64 0, .lit .i64 0, .lit .i64 0, .lit .i64 0, .lit .i64 0, .lit .i64 0, .lit .i64 0, .lit .i64 0, .lit .i64 0, .lit .i64 0, .lit .i64 0, .lit .i64 0, .lit .i64 0, .lit .i64 0, .lit .i64 0, .lit .i64 0, .lit .i64 0, .lit .i64 0, .str ByteArray.empty, .str ByteArray.empty, .str ByteArray.empty, .lit .i64 0, .lit .i64 0, .lit .i64 0, .lit .i64 0, .lit .i64 0]⟩
def ti209 : TI := ⟨1, 8, .other, [.val .nilFunc]⟩
def ti210 : TI := ⟨256, 2048, (.array 16 50), [.lit .i64 0, .lit .i64 0, .lit .i64 0, .lit .i64 0, .lit .i64 0, .lit .i64 0, .lit .i64 0, .lit .i64 0, .lit .i64 0, .lit .i64 0, .lit .i64 0, .lit .i64 0, .lit .i64 0, .lit .i64 0, .lit .i64 0, .lit .i64 0, .lit .i64 0, .lit .i64 0, .lit .i64 0, .lit .i64 0, .lit .i64 0, .lit .i64 0, .lit .i64 0, .lit .i64 0, .lit .i64 0, .lit .i64 0, .lit .i64 0, .lit .i64 0, .lit .i64 0, .lit .i64 0, .lit .i64 0, .lit .i64 0, .lit .i64 0, .lit .i64 0, .lit .i64 0, .lit .i64 0, .lit .i64 0, .lit .i64 0, .lit .i64 0, .lit .i64 0, .lit .i64 0, .lit .i64 0, .lit .i64 0, .lit .i64 0, .lit .i64 0, .lit .i64 0, .lit .i64 0, .lit .i64 0, .lit .i64 0, .lit .i64 0, .lit .i64 0, .lit .i64 0, .lit .i64 0, .lit .i64 0, .lit .i64 0, .lit .i64 0, .lit .i64 0, .lit .i64 0, .lit .i64 0, .lit .i64 0, .lit .i64 0, .lit .i64 0, .lit .i64 0, .lit .i64 0, .lit .i64 0, .lit .i64 0, .lit .i64 0, .lit .i64 0, .lit .i64 0, .lit .i64 0, .lit .i64 0, .lit .i64 0, .lit .i64 0, .lit .i64 0, .lit .i64 0, .lit .i64 0, .lit .i64 0, .lit .i64 0, .lit .i64 0, .lit .i64 0, .lit .i64 0, .lit .i64 0, .lit .i64 0, .lit .i64 0, .lit .i64 0, .lit .i64 0, .lit .i64 0, .lit .i64 0, .lit .i64 0, .lit .i64 0, .lit .i64 0, .lit .i64 0, .lit .i64 0, .lit .i64 0, .lit .i64 0, .lit .i64 0, .lit .i64 0, .lit .i64 0, .lit .i64 0, .lit .i64 0, .lit .i64 0, .lit .i64 0, .lit .i64 0, .lit .i64 0, .lit .i64 0, .lit .i64 0, .lit .i64 0, .lit .i64 0, .lit .i64 0, .lit .i64 0, .lit .i64 0, .lit .i64 0, .lit .i64 0, .lit .i64 0, .lit .i64 0, .lit .i64 0, .lit .i64 0, .lit .i64 0, .lit .i64 0, .lit .i64 0, .lit .i64 0, .lit .i64 0, .lit .i64 0, .lit .i64 0, .lit .i64 0, .lit .i64 0, .lit .i64 0, .lit .i64 0, .lit .i64 0, .lit .i64 0, .lit .i64 0, .lit .i64 0, .lit .i64 0, .lit .i64 0, .lit .i64 0, .lit .i64 0, .lit .i64 0, .lit .i64 0, .lit .i64 0, .lit .i64 0, .lit .i64 0, .lit .i64 0, .lit .i64 0, .lit .i64 0, .lit .i64 0, .lit .i64 0, .lit .i64 0, .lit .i64 0, .lit .i64 0, .lit .i64 0, .lit .i64 0, .lit .i64 0, .lit .i64 0, .lit .i64 0, .lit .i64 0, .lit .i64 0, .lit .i64 0, .lit .i64 0, .lit .i64 0, .lit .i64 0, .lit .i64 0, .lit .i64 0, .lit .i64 0, .lit .i64 0, .lit .i64 0, .lit .i64 0, .lit .i64 0, .lit .i64 0, .lit .i64 0, .lit .i64 0, .lit .i64 0, .lit .i64 0, .lit .i64 0, .lit .i64 0, .lit .i64 0, .lit .i64 0, .lit .i64 0, .lit .i64 0, .lit .i64 0, .lit .i64 0, .lit .i64 0, .lit .i64 0, .lit .i64 0, .lit .i64 0, .lit .i64 0, .lit .i64 0, .lit .i64 0, .lit .i64 0, .lit .i64 0, .lit .i64 0, .lit .i64 0, .lit .i64 0, .lit .i64 0, .lit .i64 0, .lit .i64 0, .lit .i64 0, .lit .i64 0, .lit .i64 0, .lit .i64 0, .lit .i64 0, .lit .i64 0, .lit .i64 0, .lit .i64 0, .lit .i64 0, .lit .i64 0, .lit .i64 0, .lit .i64 0, .lit .i64 0, .lit .i64 0, .lit .i64 0, .lit .i64 0, .lit .i64 0, .lit .i64 0, .lit .i64 0, .lit .i64 0, .lit .i64 0, .lit .i64 0, .lit .i64 0, .lit .i64 0, .lit .i64 0, .lit .i64 0, .lit .i64 0, .lit .i64 0, .lit .i64 0, .lit .i64 0, .lit .i64 0, .lit .i64 0, .lit .i64 0, .lit .i64 0, .lit .i64 0, .lit .i64 0, .lit .i64 0, .lit .i64 0, .lit .i64 0, .lit .i64 0, .lit .i64 0, .lit .i64 0, .lit .i64 0, .lit .i64 0, .lit .i64 0, .lit .i64 0, .lit .i64 0, .lit .i64 0, .lit .i64 0, .lit .i64 0, .lit .i64 0, .lit .i64 0, .lit .i64 0, .lit .i64 0, .lit .i64 0, .lit .i64 0, .lit .i64 0, .lit .i64 0, .lit .i64 0, .lit .i64 0, .lit .i64 0]⟩
def ti211 : TI := ⟨257, 2056, (.struct [(0, 3), (1, 210)]), [.lit .i64 0, .lit .i64 0, .lit .i64 0, .lit .i64 0, .lit .i64 0, .lit .i64 0, .lit .i64 0, .lit .i64 0, .lit .i64 0, .lit .i64 0, .lit .i64 0, .lit .i64 0, .lit .i64 0, .lit .i64 0, .lit .i64 0, .lit .i64 0, .lit .i64 0, .lit .i64 0, .lit .i64 0, .lit .i64 0, .lit .i64 0, .lit .i64 0, .lit .i64 0, .lit .i64 0, .lit .i64 0, .lit .i64 0, .lit .i64 0, .lit .i64 0, .lit .i64 0, .lit .i64 0, .lit .i64 0, .lit .i64 0, .lit .i64 0, .lit .i64 0, .lit .i64 0, .lit .i64 0, .lit .i64 0, .lit .i64 0, .lit .i64 0, .lit .i64 0, .lit .i64 0, .lit .i64 0, .lit .i64 0, .lit .i64 0, .lit .i64 0, .lit .i64 0, .lit .i64 0, .lit .i64 0, .lit .i64 0, .lit .i64 0, .lit .i64 0, .lit .i64 0, .lit .i64 0, .lit .i64 0, .lit .i64 0, .lit .i64 0, .lit .i64 0, .lit .i64 0, .lit .i64 0, .lit .i64 0, .lit .i64 0, .lit .i64 0, .lit .i64 0, .lit .i64 0, .lit .i64 0, .lit .i64 0, .lit .i64 0, .lit .i64 0, .lit .i64 0, .lit .i64 0, .lit .i64 0, .lit .i64 0, .lit .i64 0, .lit .i64 0, .lit .i64 0, .lit .i64 0, .lit .i64 0, .lit .i64 0, .lit .i64 0, .lit .i64 0, .lit .i64 0, .lit .i64 0, .lit .i64 0, .lit .i64 0, .lit .i64 0, .lit .i64 0, .lit .i64 0, .lit .i64 0, .lit .i64 0, .lit .i64 0, .lit .i64 0, .lit .i64 0, .lit .i64 0, .lit .i64 0, .lit .i64 0, .lit .i64 0, .lit .i64 0, .lit .i64 0, .lit .i64 0, .lit .i64 0, .lit .i64 0, .lit .i64 0, .lit .i64 0, .lit .i64 0, .lit .i64 0, .lit .i64 0, .lit .i64 0, .lit .i64 0, .lit .i64 0, .lit .i64 0, .lit .i64 0, .lit .i64 0, .lit .i64 0, .lit .i64 0, .lit .i64 0, .lit .i64 0, .lit .i64 0, .lit .i64 0, .lit .i64 0, .lit .i64 0, .lit .i64 0, .lit .i64 0, .lit .i64 0, .lit .i64 0, .lit .i64 0, .lit .i64 0, .lit .i64 0, .lit .i64 0, .lit .i64 0, .lit .i64 0, .lit .i64 0, .lit .i64 0, .lit .i64 0, .lit .i64 0, .lit .i64 0, .lit .i64 0, .lit .i64 0, .lit .i64 0, .lit .i64 0, .lit .i64 0, .lit .i64 0, .lit .i64 0, .lit .i64 0, .lit .i64 0, .lit .i64 0, .lit .i64 0, .lit .i64 0, .lit .i64 0, .lit .i64 0, .lit .i64 0, .lit .i64 0, .lit .i64 0, .lit .i64 0, .lit .i64 0, .lit .i64 0, .lit .i64 0, .lit .i64 0, .lit .i64 0, .lit .i64 0, .lit .i64 0, .lit .i64 0, .lit .i64 0, .lit .i64 0, .lit .i64 0, .lit .i64 0, .lit .i64 0, .lit .i64 0, .lit .i64 0, .lit .i64 0, .lit .i64 0, .lit .i64 0, .lit .i64 0, .lit .i64 0, .lit .i64 0, .lit .i64 0, .lit .i64 0, .lit .i64 0, .lit .i64 0, .lit .i64 0, .lit .i64 0, .lit .i64 0, .lit .i64 0, .lit .i64 0, .lit .i64 0, .lit .i64 0, .lit .i64 0, .lit .i64 0, .lit .i64 0, .lit .i64 0, .lit .i64 0, .lit .i64 0, .lit .i64 0, .lit .i64 0, .lit .i64 0, .lit .i64 0, .lit .i64 0, .lit .i64 0, .lit .i64 0, .lit .i64 0, .lit .i64 0, .lit .i64 0, .lit .i64 0, .lit .i64 0, .lit .i64 0, .lit .i64 0, .lit .i64 0, .lit .i64 0, .lit .i64 0, .lit .i64 0, .lit .i64 0, .lit .i64 0, .lit .i64 0, .lit .i64 0, .lit .i64 0, .lit .i64 0, .lit .i64 0, .lit .i64 0, .lit .i64 0, .lit .i64 0, .lit .i64 0, .lit .i64 0, .lit .i64 0, .lit .i64 0, .lit .i64 0, .lit .i64 0, .lit .i64 0, .lit .i64 0, .lit .i64 0, .lit .i64 0, .lit .i64 0, .lit .i64 0, .lit .i64 0, .lit .i64 0, .lit .i64 0, .lit .i64 0, .lit .i64 0, .lit .i64 0, .lit .i64 0, .lit .i64 0, .lit .i64 0, .lit .i64 0, .lit .i64 0, .lit .i64 0, .lit .i64 0, .lit .i64 0, .lit .i64 0, .lit .i64 0, .lit .i64 0, .lit .i64 0, .lit .i64 0, .lit .i64 0, .lit .i64 0, .lit .i64 0, .lit .i64 0, .lit .i64 0, .lit .i64 0, .lit .i64 0]⟩
def ti212 : TI := ⟨257, 2056, (.struct [(0, 3), (1, 210)]), [.lit .i64 0, .lit .i64 0, .lit .i64 0, .lit .i64 0, .lit .i64 0, .lit .i64 0, .lit .i64 0, .lit .i64 0, .lit .i64 0, .lit .i64 0, .lit .i64 0, .lit .i64 0, .lit .i64 0, .lit .i64 0, .lit .i64 0, .lit .i64 0, .lit .i64 0, .lit .i64 0, .lit .i64 0, .lit .i64 0, .lit .i64 0, .lit .i64 0, .lit .i64 0, .lit .i64 0, .lit .i64 0, .lit .i64 0, .lit .i64 0, .lit .i64 0, .lit .i64 0, .lit .i64 0, .lit .i64 0, .lit .i64 0, .lit .i64 0, .lit .i64 0, .lit .i64 0, .lit .i64 0, .lit .i64 0, .lit .i64 0, .lit .i64 0, .lit .i64 0, .lit .i64 0, .lit .i64 0, .lit .i64 0, .lit .i64 0, .lit .i64 0, .lit .i64 0, .lit .i64 0, .lit .i64 0, .lit .i64 0, .lit .i64 0, .lit .i64 0, .lit .i64 0, .lit .i64 0, .lit .i64 0, .lit .i64 0, .lit .i64 0, .lit .i64 0, .lit .i64 0, .lit .i64 0, .lit .i64 0, .lit .i64 0, .lit .i64 0, .lit .i64 0, .lit .i64 0, .lit .i64 0, .lit .i64 0, .lit .i64 0, .lit .i64 0, .lit .i64 0, .lit .i64 0, .lit .i64 0, .lit .i64 0, .lit .i64 0, .lit .i64 0, .lit .i64 0, .lit .i64 0, .lit .i64 0, .lit .i64 0, .lit .i64 0, .lit .i64 0, .lit .i64 0, .lit .i64 0, .lit .i64 0, .lit .i64 0, .lit .i64 0, .lit .i64 0, .lit .i64 0, .lit .i64 0, .lit .i64 0, .lit .i64 0, .lit .i64 0, .lit .i64 0, .lit .i64 0, .lit .i64 0, .lit .i64 0, .lit .i64 0, .lit .i64 0, .lit .i64 0, .lit .i64 0, .lit .i64 0, .lit .i64 0, .lit .i64 0, .lit .i64 0, .lit .i64 0, .lit .i64 0, .lit .i64 0, .lit .i64 0, .lit .i64 0, .lit .i64 0, .lit .i64 0, .lit .i64 0, .lit .i64 0, .lit .i64 0, .lit .i64 0, .lit .i64 0, .lit .i64 0, .lit .i64 0, .lit .i64 0, .lit .i64 0, .lit .i64 0, .lit .i64 0, .lit .i64 0, .lit .i64 0, .lit .i64 0, .lit .i64 0, .lit .i64 0, .lit .i64 0, .lit .i64 0, .lit .i64 0, .lit .i64 0, .lit .i64 0, .lit .i64 0, .lit .i64 0, .lit .i64 0, .lit .i64 0, .lit .i64 0, .lit .i64 0, .lit .i64 0, .lit .i64 0, .lit .i64 0, .lit .i64 0, .lit .i64 0, .lit .i64 0, .lit .i64 0, .lit .i64 0, .lit .i64 0, .lit .i64 0, .lit .i64 0, .lit .i64 0, .lit .i64 0, .lit .i64 0, .lit .i64 0, .lit .i64 0, .lit .i64 0, .lit .i64 0, .lit .i64 0, .lit .i64 0, .lit .i64 0, .lit .i64 0, .lit .i64 0, .lit .i64 0, .lit .i64 0, .lit .i64 0, .lit .i64 0, .lit .i64 0, .lit .i64 0, .lit .i64 0, .lit .i64 0, .lit .i64 0, .lit .i64 0, .lit .i64 0, .lit .i64 0, .lit .i64 0, .lit .i64 0, .lit .i64 0, .lit .i64 0, .lit .i64 0, .lit .i64 0, .lit .i64 0, .lit .i64 0, .lit .i64 0, .lit .i64 0, .lit .i64 0, .lit .i64 0, .lit .i64 0, .lit .i64 0, .lit .i64 0, .lit .i64 0, .lit .i64 0, .lit .i64 0, .lit .i64 0, .lit .i64 0, .lit .i64 0, .lit .i64 0, .lit .i64 0, .lit .i64 0, .lit .i64 0, .lit .i64 0, .lit .i64 0, .lit .i64 0, .lit .i64 0, .lit .i64 0, .lit .i64 0, .lit .i64 0, .lit .i64 0, .lit .i64 0, .lit .i64 0, .lit .i64 0, .lit .i64 0, .lit .i64 0, .lit .i64 0, .lit .i64 0, .lit .i64 0, .lit .i64 0, .lit .i64 0, .lit .i64 0, .lit .i64 0, .lit .i64 0, .lit .i64 0, .lit .i64 0, .lit .i64 0, .lit .i64 0, .lit .i64 0, .lit .i64 0, .lit .i64 0, .lit .i64 0, .lit .i64 0, .lit .i64 0, .lit .i64 0, .lit .i64 0, .lit .i64 0, .lit .i64 0, .lit .i64 0, .lit .i64 0, .lit .i64 0, .lit .i64 0, .lit .i64 0, .lit .i64 0, .lit .i64 0, .lit .i64 0, .lit .i64 0, .lit .i64 0, .lit .i64 0, .lit .i64 0, .lit .i64 0, .lit .i64 0, .lit .i64 0, .lit .i64 0, .lit .i64 0, .lit .i64 0, .lit .i64 0, .lit .i64 0, .lit .i64 0, .lit .i64 0, .lit .i64 0, .lit .i64 0, .lit .i64 0]⟩
def ti213 : TI := ⟨1, 8, .other, [.val .nilFunc]⟩
def ti214 : TI := ⟨1, 8, .other, [.val .nilFunc]⟩
def ti216 : TI := ⟨1, 8, .other, [.val .nilFunc]⟩
def ti218 : TI := ⟨1, 8, .other, [.val .nilFunc]⟩
def ti219 : TI := ⟨1, 8, .other, [.val .nilFunc]⟩
def ti220 : TI := ⟨1, 24, (.slice 162), [.val (.slice none 0 0)]⟩
def ti222 : TI := ⟨1, 8, .other, [.val .nilFunc]⟩
def ti223 : TI := ⟨1, 8, .other, [.val .nilFunc]⟩
def ti224 : TI := ⟨1, 8, .other, [.val .nilFunc]⟩
def ti225 : TI := ⟨1, 24, (.struct [(0, 201)]), [.val (.slice none 0 0)]⟩
def ti226 : TI := ⟨1, 24, (.struct [(0, 201)]), [.val (.slice none 0 0)]⟩
def ti227 : TI := ⟨1, 8, (.struct [(0, 27)]), [.lit .i64 0]⟩
def ti228 : TI := ⟨1, 8, (.struct [(0, 27)]), [.lit .i64 0]⟩
def ti230 : TI := ⟨1, 8, (.pointer 232), [.val (.pointer none)]⟩
def ti231 : TI := ⟨2, 32, (.struct [(0, 162), (1, 3)]), [.val (.slice none 0 0), .lit .i64 0]⟩
def ti232 : TI := ⟨2, 32, (.struct [(0, 162), (1, 3)]), [.val (.slice none 0 0), .lit .i64 0]⟩
def ti233 : TI := ⟨1, 8, .other, [.val .nilFunc]⟩
def ti234 : TI := ⟨1, 8, .other, [.val .nilFunc]⟩
def ti235 : TI := ⟨1, 8, .other, [.val .nilFunc]⟩
def ti236 : TI := ⟨28, 248, (.struct [(0, 33), (2, 121)]), [.lit .i64 0, .lit .i64 0, .lit .i64 0, .lit .i64 0, .lit .i64 0, .lit .i64 0, .lit .i64 0, .lit .i64 0, .lit .i64 0, .lit .i64 0, .lit .i64 0, .lit .i64 0, .lit .i64 0, .lit .i64 0, .lit .i64 0, .lit .i64 0, .lit .i64 0, .lit .i64 0, .lit .i64 0, .lit .i64 0, .lit .i64 0, .lit .i64 0, .str ByteArray.empty, .str ByteArray.empty, .str ByteArray.empty, .lit .i64 0, .lit .i64 0, .lit .i64 0]⟩
def ti237 : TI := ⟨28, 248, (.struct [(0, 33), (2, 121)]), [.lit .i64 0, .lit .i64 0, .lit .i64 0, .lit .i64 0, .lit .i64 0, .lit .i64 0, .lit .i64 0, .lit .i64 0, .lit .i64 0, .lit .i64 0, .lit .i64 0, .lit .i64 0, .lit .i64 0, .lit .i64 0, .lit .i64 0, .lit .i64 0, .lit .i64 0, .lit .i64 0, .lit .i64 0, .lit .i64 0, .lit .i64 0, .lit .i64 0, .str ByteArray.empty, .str ByteArray.empty, .str ByteArray.empty, .lit .i64 0, .lit .i64 0, .lit .i64 0]⟩
def ti238 : TI := ⟨1, 8, .other, [.val .nilFunc]⟩
def ti239 : TI := ⟨1, 8, .other, [.val .nilFunc]⟩
def ti241 : TI := ⟨1, 8, .other, [.val .nilFunc]⟩
def ti242 : TI := ⟨1, 8, (.struct [(0, 3)]), [.lit .i64 0]⟩
def ti243 : TI := ⟨1, 8, (.struct [(0, 3)]), [.lit .i64 0]⟩
def ti245 : TI := ⟨1, 8, .other, [.val .nilFunc]⟩
def ti246 : TI := ⟨1, 8, .other, [.val .nilFunc]⟩
def ti247 : TI := ⟨1, 8, .other, [.val .nilFunc]⟩
def ti248 : TI := ⟨1, 8, .other, [.val .nilFunc]⟩
def ti249 : TI := ⟨1, 8, (.int .u64), [.lit .u64 0]⟩
def ti250 : TI := ⟨1, 8, (.pointer 201), [.val (.pointer none)]⟩
def ti251 : TI := ⟨1, 8, (.pointer 204), [.val (.pointer none)]⟩
def ti253 : TI := ⟨1, 8, .other, [.val .nilFunc]⟩
def ti254 : TI := ⟨1, 8, .other, [.val .nilFunc]⟩
def ti255 : TI := ⟨1, 8, .other, [.val .nilFunc]⟩
def ti256 : TI := ⟨30, 264, (.struct [(0, 33), (2, 208)]), [.lit .i64 0, .lit .i64 0, .lit .i64 0, .lit .i64 0, .lit .i64 0, .lit .i64 0, .lit .i64 0, .lit .i64 0, .lit .i64 0, .lit .i64 0, .lit .i64 0, .lit .i64 0, .lit .i64 0, .lit .i64 0, .lit .i64 0, .lit .i64 0, .lit .i64 0, .lit .i64 0, .lit .i64 0, .lit .i64 0, .lit .i64 0, .lit .i64 0, .str ByteArray.empty, .str ByteArray.empty, .str ByteArray.empty, .lit .i64 0, .lit .i64 0, .lit .i64 0, .lit .i64 0, .lit .i64 0]⟩
def ti257 : TI := ⟨30, 264, (.struct [(0, 33), (2, 208)]), [.lit .i64 0, .lit .i64 0, .lit .i64 0, .lit .i64 0, .lit .i64 0, .lit .i64 0, .lit .i64 0, .lit .i64 0, .lit .i64 0, .lit .i64 0, .lit .i64 0, .lit .i64 0, .lit .i64 0, .lit .i64 0, .lit .i64 0, .lit .i64 0, .lit .i64 0, .lit .i64 0, .lit .i64 0, .lit .i64 0, .lit .i64 0, .lit .i64 0, .str ByteArray.empty, .str ByteArray.empty, .str ByteArray.empty, .lit .i64 0, .lit .i64 0, .lit .i64 0, .lit .i64 0, .lit .i64 0]⟩
def ti258 : TI := ⟨1, 8, .other, [.val .nilFunc]⟩
def ti259 : TI := ⟨1, 8, .other, [.val .nilFunc]⟩
def ti260 : TI := ⟨1, 8, .other, [.val .nilFunc]⟩
def ti261 : TI := ⟨1, 8, .other, [.val .nilFunc]⟩
def ti262 : TI := ⟨1, 8, .other, [.val .nilFunc]⟩
def ti263 : TI := ⟨1, 8, .other, [.val .nilFunc]⟩
def ti264 : TI := ⟨1, 8, .other, [.val .nilFunc]⟩
def ti265 : TI := ⟨1, 8, .other, [.val .nilFunc]⟩
def ti266 : TI := ⟨1, 8, .other, [.val .nilFunc]⟩
def ti267 : TI := ⟨1, 8, .other, [.val .nilFunc]⟩
def ti268 : TI := ⟨1, 8, .other, [.val .nilFunc]⟩
def ti269 : TI := ⟨1, 8, .other, [.val (.chan none)]⟩
def ti270 : TI := ⟨1, 8, (.struct [(0, 269)]), [.val (.chan none)]⟩
def ti271 : TI := ⟨1, 8, (.struct [(0, 269)]), [.val (.chan none)]⟩
def ti272 : TI := ⟨1, 8, .other, [.val .nilFunc]⟩
def ti276 : TI := ⟨1, 8, .other, [.val .nilFunc]⟩
def ti277 : TI := ⟨1, 8, .other, [.val .nilFunc]⟩
def ti278 : TI := ⟨1, 8, .other, [.val .nilFunc]⟩
def ti279 : TI := ⟨1, 8, .other, [.val .nilFunc]⟩
def ti280 : TI := ⟨1, 8, .other, [.val .nilFunc]⟩
def ti281 : TI := ⟨1, 8, .other, [.val .nilFunc]⟩
def ti282 : TI := ⟨1, 8, .other, [.val .nilFunc]⟩
def ti283 : TI := ⟨1, 8, .other, [.val .nilFunc]⟩
def ti284 : TI := ⟨1, 8, .other, [.val .nilFunc]⟩
def ti285 : TI := ⟨1, 8, .other, [.val .nilFunc]⟩
def ti286 : TI := ⟨1, 8, .other, [.val .nilFunc]⟩
def ti287 : TI := ⟨1, 8, .other, [.val .nilFunc]⟩
def ti288 : TI := ⟨1, 24, (.slice 291), [.val (.slice none 0 0)]⟩
def ti289 : TI := ⟨1, 8, .other, [.val .nilFunc]⟩
def ti290 : TI := ⟨1, 8, .other, [.val .nilFunc]⟩
def ti291 : TI := ⟨2, 32, (.struct [(0, 9), (1, 9)]), [.str ByteArray.empty, .str ByteArray.empty]⟩
def ti292 : TI := ⟨1, 8, .other, [.val .nilFunc]⟩
def ti293 : TI := ⟨1, 24, (.slice 296), [.val (.slice none 0 0)]⟩
def ti294 : TI := ⟨1, 8, .other, [.val .nilFunc]⟩
def ti295 : TI := ⟨1, 8, .other, [.val .nilFunc]⟩
def ti296 : TI := ⟨2, 24, (.struct [(0, 9), (1, 3)]), [.str ByteArray.empty, .lit .i64 0]⟩
def ti297 : TI := ⟨1, 8, .other, [.val .nilFunc]⟩
def ti298 : TI := ⟨1, 8, .other, [.val .nilFunc]⟩
def ti299 : TI := ⟨1, 8, .other, [.val .nilFunc]⟩
def ti300 : TI := ⟨1, 8, .other, [.val .nilFunc]⟩
def ti301 : TI := ⟨1, 8, .other, [.val .nilFunc]⟩
def ti302 : TI := ⟨1, 8, .other, [.val .nilFunc]⟩
def ti304 : TI := ⟨1, 8, .other, [.val .nilFunc]⟩
def ti306 : TI := ⟨1, 8, .other, [.val .nilFunc]⟩
def ti307 : TI := ⟨1, 8, .other, [.val .nilFunc]⟩
def ti308 : TI := ⟨1, 24, (.slice 208), [.val (.slice none 0 0)]⟩
def ti309 : TI := ⟨1, 8, .other, [.val .nilFunc]⟩
def ti310 : TI := ⟨1, 8, .other, [.val .nilFunc]⟩
def ti311 : TI := ⟨1, 8, .other, [.val .nilFunc]⟩
def ti312 : TI := ⟨1, 8, .other, [.val .nilFunc]⟩
def ti313 : TI := ⟨1, 8, .other, [.val .nilFunc]⟩
def ti314 : TI := ⟨1, 8, .other, [.val .nilFunc]⟩
def ti315 : TI := ⟨1, 8, .other, [.val .nilFunc]⟩
def ti316 : TI := ⟨1, 8, .other, [.val .nilFunc]⟩
def ti317 : TI := ⟨1, 8, (.int .u64), [.lit .u64 0]⟩
def ti318 : TI := ⟨1, 8, .other, [.val .nilFunc]⟩
def ti319 : TI := ⟨1, 8, .other, [.val .nilFunc]⟩
def ti320 : TI := ⟨1, 8, .other, [.val .nilFunc]⟩
def ti321 : TI := ⟨1, 8, .other, [.val .nilFunc]⟩
def ti322 : TI := ⟨1, 8, .other, [.val .nilFunc]⟩
def ti323 : TI := ⟨1, 8, .other, [.val .nilFunc]⟩
def ti324 : TI := ⟨1, 8, .other, [.val .nilFunc]⟩
def ti325 : TI := ⟨2, 32, (.struct [(0, 162), (1, 27)]), [.val (.slice none 0 0), .lit .i64 0]⟩
def ti326 : TI := ⟨2, 32, (.struct [(0, 162), (1, 27)]), [.val (.slice none 0 0), .lit .i64 0]⟩
def ti328 : TI := ⟨1, 8, .other, [.val .nilFunc]⟩
def ti329 : TI := ⟨1, 8, .other, [.val .nilFunc]⟩
def ti330 : TI := ⟨1, 24, (.slice 22), [.val (.slice none 0 0)]⟩
def ti332 : TI := ⟨1, 8, .other, [.val .nilFunc]⟩
def ti333 : TI := ⟨1, 8, .other, [.val .nilFunc]⟩
def ti334 : TI := ⟨1, 8, .other, [.val .nilFunc]⟩
def ti335 : TI := ⟨256, 256, (.array 256 4), [.ff, .ff, .ff, .ff, .ff, .ff, .ff, .ff, .ff, .ff, .ff, .ff, .ff, .ff, .ff, .ff, .ff, .ff, .ff, .ff, .ff, .ff, .ff, .ff, .ff, .ff, .ff, .ff, .ff, .ff, .ff, .ff, .ff, .ff, .ff, .ff, .ff, .ff, .ff, .ff, .ff, .ff, .ff, .ff, .ff, .ff, .ff, .ff, .ff, .ff, .ff, .ff, .ff, .ff, .ff, .ff, .ff, .ff, .ff, .ff, .ff, .ff, .ff, .ff, .ff, .ff, .ff, .ff, .ff, .ff, .ff, .ff, .ff, .ff, .ff, .ff, .ff, .ff, .ff, .ff, .ff, .ff, .ff, .ff, .ff, .ff, .ff, .ff, .ff, .ff, .ff, .ff, .ff, .ff, .ff, .ff, .ff, .ff, .ff, .ff, .ff, .ff, .ff, .ff, .ff, .ff, .ff, .ff, .ff, .ff, .ff, .ff, .ff, .ff, .ff, .ff, .ff, .ff, .ff, .ff, .ff, .ff, .ff, .ff, .ff, .ff, .ff, .ff, .ff, .ff, .ff, .ff, .ff, .ff, .ff, .ff, .ff, .ff, .ff, .ff, .ff, .ff, .ff, .ff, .ff, .ff, .ff, .ff, .ff, .ff, .ff, .ff, .ff, .ff, .ff, .ff, .ff, .ff, .ff, .ff, .ff, .ff, .ff, .ff, .ff, .ff, .ff, .ff, .ff, .ff, .ff, .ff, .ff, .ff, .ff, .ff, .ff, .ff, .ff, .ff, .ff, .ff, .ff, .ff, .ff, .ff, .ff, .ff, .ff, .ff, .ff, .ff, .ff, .ff, .ff, .ff, .ff, .ff, .ff, .ff, .ff, .ff, .ff, .ff, .ff, .ff, .ff, .ff, .ff, .ff, .ff, .ff, .ff, .ff, .ff, .ff, .ff, .ff, .ff, .ff, .ff, .ff, .ff, .ff, .ff, .ff, .ff, .ff, .ff, .ff, .ff, .ff, .ff, .ff, .ff, .ff, .ff, .ff, .ff, .ff, .ff, .ff, .ff, .ff, .ff, .ff, .ff, .ff, .ff, .ff, .ff, .ff, .ff, .ff, .ff, .ff]⟩
def ti336 : TI := ⟨256, 256, (.array 256 4), [.ff, .ff, .ff, .ff, .ff, .ff, .ff, .ff, .ff, .ff, .ff, .ff, .ff, .ff, .ff, .ff, .ff, .ff, .ff, .ff, .ff, .ff, .ff, .ff, .ff, .ff, .ff, .ff, .ff, .ff, .ff, .ff, .ff, .ff, .ff, .ff, .ff, .ff, .ff, .ff, .ff, .ff, .ff, .ff, .ff, .ff, .ff, .ff, .ff, .ff, .ff, .ff, .ff, .ff, .ff, .ff, .ff, .ff, .ff, .ff, .ff, .ff, .ff, .ff, .ff, .ff, .ff, .ff, .ff, .ff, .ff, .ff, .ff, .ff, .ff, .ff, .ff, .ff, .ff, .ff, .ff, .ff, .ff, .ff, .ff, .ff, .ff, .ff, .ff, .ff, .ff, .ff, .ff, .ff, .ff, .ff, .ff, .ff, .ff, .ff, .ff, .ff, .ff, .ff, .ff, .ff, .ff, .ff, .ff, .ff, .ff, .ff, .ff, .ff, .ff, .ff, .ff, .ff, .ff, .ff, .ff, .ff, .ff, .ff, .ff, .ff, .ff, .ff, .ff, .ff, .ff, .ff, .ff, .ff, .ff, .ff, .ff, .ff, .ff, .ff, .ff, .ff, .ff, .ff, .ff, .ff, .ff, .ff, .ff, .ff, .ff, .ff, .ff, .ff, .ff, .ff, .ff, .ff, .ff, .ff, .ff, .ff, .ff, .ff, .ff, .ff, .ff, .ff, .ff, .ff, .ff, .ff, .ff, .ff, .ff, .ff, .ff, .ff, .ff, .ff, .ff, .ff, .ff, .ff, .ff, .ff, .ff, .ff, .ff, .ff, .ff, .ff, .ff, .ff, .ff, .ff, .ff, .ff, .ff, .ff, .ff, .ff, .ff, .ff, .ff, .ff, .ff, .ff, .ff, .ff, .ff, .ff, .ff, .ff, .ff, .ff, .ff, .ff, .ff, .ff, .ff, .ff, .ff, .ff, .ff, .ff, .ff, .ff, .ff, .ff, .ff, .ff, .ff, .ff, .ff, .ff, .ff, .ff, .ff, .ff, .ff, .ff, .ff, .ff, .ff, .ff, .ff, .ff, .ff, .ff, .ff, .ff, .ff, .ff, .ff, .ff]⟩
def ti338 : TI := ⟨1, 8, .other, [.val .nilFunc]⟩
def ti339 : TI := ⟨1, 8, .other, [.val .nilFunc]⟩
def ti340 : TI := ⟨1, 8, (.pointer 336), [.val (.pointer none)]⟩
def ti341 : TI := ⟨1, 8, .other, [.val .nilFunc]⟩
def ti343 : TI := ⟨1, 8, .other, [.val .nilFunc]⟩
def ti344 : TI := ⟨1, 8, .other, [.val .nilFunc]⟩
def ti345 : TI := ⟨1, 8, .other, [.val .nilFunc]⟩
def ti346 : TI := ⟨1, 8, .other, [.val .nilFunc]⟩
def ti347 : TI := ⟨1, 8, .other, [.val .nilFunc]⟩
def ti348 : TI := ⟨1, 8, .other, [.val .nilFunc]⟩
def ti349 : TI := ⟨1, 8, .other, [.val .nilFunc]⟩
def ti350 : TI := ⟨1, 8, .other, [.val .nilFunc]⟩
def ti351 : TI := ⟨1, 8, .other, [.val .nilFunc]⟩
def ti352 : TI := ⟨1, 8, .other, [.val .nilFunc]⟩
def ti353 : TI := ⟨1, 8, .other, [.val .nilFunc]⟩
def ti354 : TI := ⟨1, 8, .other, [.val .nilFunc]⟩
def ti355 : TI := ⟨1, 8, .other, [.val .nilFunc]⟩
def ti356 : TI := ⟨1, 8, .other, [.val .nilFunc]⟩
def ti357 : TI := ⟨1, 8, .other, [.val .nilFunc]⟩
def ti358 : TI := ⟨1, 8, .other, [.val .nilFunc]⟩
def ti359 : TI := ⟨1, 8, .other, [.val .nilFunc]⟩
def ti361 : TI := ⟨1, 8, .other, [.val .nilFunc]⟩
def ti362 : TI := ⟨1, 8, (.pointer 364), [.val (.pointer none)]⟩
def ti363 : TI := ⟨3, 40, (.struct [(0, 162), (1, 3), (2, 27)]), [.val (.slice none 0 0), .lit .i64 0, .lit .i64 0]⟩
def ti364 : TI := ⟨3, 40, (.struct [(0, 162), (1, 3), (2, 27)]), [.val (.slice none 0 0), .lit .i64 0, .lit .i64 0]⟩
def ti365 : TI := ⟨1, 8, .other, [.val .nilFunc]⟩
def ti367 : TI := ⟨1, 8, .other, [.val .nilFunc]⟩
def ti369 : TI := ⟨1, 8, .other, [.val .nilFunc]⟩
def ti370 : TI := ⟨4, 4, (.struct [(0, 4), (1, 4), (2, 4), (3, 4)]), [.ff, .ff, .ff, .ff]⟩
def ti371 : TI := ⟨4, 4, (.struct [(0, 4), (1, 4), (2, 4), (3, 4)]), [.ff, .ff, .ff, .ff]⟩
def ti373 : TI := ⟨1, 8, .other, [.val .nilFunc]⟩
def ti374 : TI := ⟨1, 8, .other, [.val .nilFunc]⟩
def ti375 : TI := ⟨1, 8, .other, [.val .nilFunc]⟩
def ti376 : TI := ⟨1, 8, .other, [.val .nilFunc]⟩
def ti377 : TI := ⟨1, 8, .other, [.val .nilFunc]⟩
def ti378 : TI := ⟨1, 8, .other, [.val .nilFunc]⟩
def ti379 : TI := ⟨1, 8, .other, [.val .nilFunc]⟩
def ti380 : TI := ⟨1, 8, .other, [.val .nilFunc]⟩
def ti381 : TI := ⟨1, 8, .other, [.val .nilFunc]⟩
def ti382 : TI := ⟨1, 8, .other, [.val .nilFunc]⟩
def ti383 : TI := ⟨1, 2, (.int .u16), [.lit .u16 0]⟩
def ti384 : TI := ⟨1, 8, .other, [.val .nilFunc]⟩
def ti385 : TI := ⟨1, 8, .other, [.val .nilFunc]⟩
def ti386 : TI := ⟨1, 8, .other, [.val .nilFunc]⟩
def ti387 : TI := ⟨1, 8, .other, [.val .nilFunc]⟩
def ti388 : TI := ⟨1, 8, (.pointer 390), [.val (.pointer none)]⟩
def ti389 : TI := ⟨4, 48, (.struct [(0, 162), (1, 3), (2, 4), (3, 27)]), [.val (.slice none 0 0), .lit .i64 0, .ff, .lit .i64 0]⟩
def ti390 : TI := ⟨4, 48, (.struct [(0, 162), (1, 3), (2, 4), (3, 27)]), [.val (.slice none 0 0), .lit .i64 0, .ff, .lit .i64 0]⟩
def ti391 : TI := ⟨1, 8, .other, [.val .nilFunc]⟩
def ti392 : TI := ⟨1, 8, .other, [.val .nilFunc]⟩
def ti393 : TI := ⟨1, 8, .other, [.val .nilFunc]⟩
def ti395 : TI := ⟨1, 8, .other, [.val .nilFunc]⟩
def ti396 : TI := ⟨1, 8, .other, [.val .nilFunc]⟩
def ti397 : TI := ⟨1, 8, (.int .i64), [.lit .i64 0]⟩
def ti399 : TI := ⟨1, 8, .other, [.val .nilFunc]⟩
def ti400 : TI := ⟨1, 8, (.pointer 427), [.val (.pointer none)]⟩
def ti401 : TI := ⟨1, 8, .other, [.val .nilFunc]⟩
def ti402 : TI := ⟨1, 8, .other, [.val .nilFunc]⟩
def ti403 : TI := ⟨1, 8, (.map 9 404), [.val (.map none)]⟩
def ti404 : TI := ⟨0, 0, (.struct []), []⟩
def ti405 : TI := ⟨1, 8, .other, [.val .nilFunc]⟩
def ti406 : TI := ⟨1, 8, (.map 9 45), [.val (.map none)]⟩
def ti407 : TI := ⟨1, 8, .other, [.val .nilFunc]⟩
def ti408 : TI := ⟨1, 8, .other, [.val .nilFunc]⟩
def ti409 : TI := ⟨1, 8, (.map 9 121), [.val (.map none)]⟩
def ti410 : TI := ⟨1, 8, .other, [.val .nilFunc]⟩
def ti411 : TI := ⟨1, 8, .other, [.val .nilFunc]⟩
def ti412 : TI := ⟨1, 8, .other, [.val .nilFunc]⟩
def ti413 : TI := ⟨1, 8, .other, [.val .nilFunc]⟩
def ti414 : TI := ⟨1, 8, .other, [.val .nilFunc]⟩
def ti415 : TI := ⟨1, 8, (.map 3 168), [.val (.map none)]⟩
def ti416 : TI := ⟨1, 8, .other, [.val .nilFunc]⟩
def ti417 : TI := ⟨1, 8, .other, [.val .nilFunc]⟩
def ti418 : TI := ⟨1, 8, .other, [.val .nilFunc]⟩
def ti419 : TI := ⟨1, 8, .other, [.val .nilFunc]⟩
def ti420 : TI := ⟨1, 8, .other, [.val .nilFunc]⟩
def ti421 : TI := ⟨1, 8, .other, [.val .nilFunc]⟩
def ti422 : TI := ⟨1, 8, .other, [.val .nilFunc]⟩
def ti423 : TI := ⟨1, 8, .other, [.val .nilFunc]⟩
def ti425 : TI := ⟨1, 8, .other, [.val .nilFunc]⟩
def ti428 : TI := ⟨1, 8, .other, [.val .nilFunc]⟩
def ti429 : TI := ⟨1, 8, .other, [.val .nilFunc]⟩
def ti430 : TI := ⟨1, 8, .other, [.val .nilFunc]⟩
def ti431 : TI := ⟨1, 8, .other, [.val .nilFunc]⟩
def ti432 : TI := ⟨1, 8, .other, [.val .nilFunc]⟩
def ti433 : TI := ⟨1, 8, .other, [.val .nilFunc]⟩
def ti434 : TI := ⟨24, 24, (.array 24 5), [.lit .u8 0, .lit .u8 0, .lit .u8 0, .lit .u8 0, .lit .u8 0, .lit .u8 0, .lit .u8 0, .lit .u8 0, .lit .u8 0, .lit .u8 0, .lit .u8 0, .lit .u8 0, .lit .u8 0, .lit .u8 0, .lit .u8 0, .lit .u8 0, .lit .u8 0, .lit .u8 0, .lit .u8 0, .lit .u8 0, .lit .u8 0, .lit .u8 0, .lit .u8 0, .lit .u8 0]⟩
def ti435 : TI := ⟨1, 8, .other, [.val .nilFunc]⟩
def ti437 : TI := ⟨1, 8, .other, [.val .nilFunc]⟩
def ti438 : TI := ⟨1, 8, .other, [.val .nilFunc]⟩
def ti439 : TI := ⟨1, 8, .other, [.val .nilFunc]⟩
def ti440 : TI := ⟨1, 8, .other, [.val .nilFunc]⟩
def ti442 : TI := ⟨1, 8, .other, [.val .nilFunc]⟩
def ti443 : TI := ⟨1, 8, .other, [.val .nilFunc]⟩
def ti444 : TI := ⟨1, 8, .other, [.val .nilFunc]⟩
def ti445 : TI := ⟨1, 8, .other, [.val .nilFunc]⟩
def ti446 : TI := ⟨1, 8, .other, [.val .nilFunc]⟩
def ti447 : TI := ⟨256, 256, (.array 256 5), [.lit .u8 0, .lit .u8 0, .lit .u8 0, .lit .u8 0, .lit .u8 0, .lit .u8 0, .lit .u8 0, .lit .u8 0, .lit .u8 0, .lit .u8 0, .lit .u8 0, .lit .u8 0, .lit .u8 0, .lit .u8 0, .lit .u8 0, .lit .u8 0, .lit .u8 0, .lit .u8 0, .lit .u8 0, .lit .u8 0, .lit .u8 0, .lit .u8 0, .lit .u8 0, .lit .u8 0, .lit .u8 0, .lit .u8 0, .lit .u8 0, .lit .u8 0, .lit .u8 0, .lit .u8 0, .lit .u8 0, .lit .u8 0, .lit .u8 0, .lit .u8 0, .lit .u8 0, .lit .u8 0, .lit .u8 0, .lit .u8 0, .lit .u8 0, .lit .u8 0, .lit .u8 0, .lit .u8 0, .lit .u8 0, .lit .u8 0, .lit .u8 0, .lit .u8 0, .lit .u8 0, .lit .u8 0, .lit .u8 0, .lit .u8 0, .lit .u8 0, .lit .u8 0, .lit .u8 0, .lit .u8 0, .lit .u8 0, .lit .u8 0, .lit .u8 0, .lit .u8 0, .lit .u8 0, .lit .u8 0, .lit .u8 0, .lit .u8 0, .lit .u8 0, .lit .u8 0, .lit .u8 0, .lit .u8 0, .lit .u8 0, .lit .u8 0, .lit .u8 0, .lit .u8 0, .lit .u8 0, .lit .u8 0, .lit .u8 0, .lit .u8 0, .lit .u8 0, .lit .u8 0, .lit .u8 0, .lit .u8 0, .lit .u8 0, .lit .u8 0, .lit .u8 0, .lit .u8 0, .lit .u8 0, .lit .u8 0, .lit .u8 0, .lit .u8 0, .lit .u8 0, .lit .u8 0, .lit .u8 0, .lit .u8 0, .lit .u8 0, .lit .u8 0, .lit .u8 0, .lit .u8 0, .lit .u8 0, .lit .u8 0, .lit .u8 0, .lit .u8 0, .lit .u8 0, .lit .u8 0, .lit .u8 0, .lit .u8 0, .lit .u8 0, .lit .u8 0, .lit .u8 0, .lit .u8 0, .lit .u8 0, .lit .u8 0, .lit .u8 0, .lit .u8 0, .lit .u8 0, .lit .u8 0, .lit .u8 0, .lit .u8 0, .lit .u8 0, .lit .u8 0, .lit .u8 0, .lit .u8 0, .lit .u8 0, .lit .u8 0, .lit .u8 0, .lit .u8 0, .lit .u8 0, .lit .u8 0, .lit .u8 0, .lit .u8 0, .lit .u8 0, .lit .u8 0, .lit .u8 0, .lit .u8 0, .lit .u8 0, .lit .u8 0, .lit .u8 0, .lit .u8 0, .lit .u8 0, .lit .u8 0, .lit .u8 0, .lit .u8 0, .lit .u8 0, .lit .u8 0, .lit .u8 0, .lit .u8 0, .lit .u8 0, .lit .u8 0, .lit .u8 0, .lit .u8 0, .lit .u8 0, .lit .u8 0, .lit .u8 0, .lit .u8 0, .lit .u8 0, .lit .u8 0, .lit .u8 0, .lit .u8 0, .lit .u8 0, .lit .u8 0, .lit .u8 0, .lit .u8 0, .lit .u8 0, .lit .u8 0, .lit .u8 0, .lit .u8 0, .lit .u8 0, .lit .u8 0, .lit .u8 0, .lit .u8 0, .lit .u8 0, .lit .u8 0, .lit .u8 0, .lit .u8 0, .lit .u8 0, .lit .u8 0, .lit .u8 0, .lit .u8 0, .lit .u8 0, .lit .u8 0, .lit .u8 0, .lit .u8 0, .lit .u8 0, .lit .u8 0, .lit .u8 0, .lit .u8 0, .lit .u8 0, .lit .u8 0, .lit .u8 0, .lit .u8 0, .lit .u8 0, .lit .u8 0, .lit .u8 0, .lit .u8 0, .lit .u8 0, .lit .u8 0, .lit .u8 0, .lit .u8 0, .lit .u8 0, .lit .u8 0, .lit .u8 0, .lit .u8 0, .lit .u8 0, .lit .u8 0, .lit .u8 0, .lit .u8 0, .lit .u8 0, .lit .u8 0, .lit .u8 0, .lit .u8 0, .lit .u8 0, .lit .u8 0, .lit .u8 0, .lit .u8 0, .lit .u8 0, .lit .u8 0, .lit .u8 0, .lit .u8 0, .lit .u8 0, .lit .u8 0, .lit .u8 0, .lit .u8 0, .lit .u8 0, .lit .u8 0, .lit .u8 0, .lit .u8 0, .lit .u8 0, .lit .u8 0, .lit .u8 0, .lit .u8 0, .lit .u8 0, .lit .u8 0, .lit .u8 0, .lit .u8 0, .lit .u8 0, .lit .u8 0, .lit .u8 0, .lit .u8 0, .lit .u8 0, .lit .u8 0, .lit .u8 0, .lit .u8 0, .lit .u8 0, .lit .u8 0, .lit .u8 0, .lit .u8 0, .lit .u8 0, .lit .u8 0, .lit .u8 0, .lit .u8 0, .lit .u8 0, .lit .u8 0, .lit .u8 0, .lit .u8 0, .lit .u8 0, .lit .u8 0, .lit .u8 0, .lit .u8 0, .lit .u8 0, .lit .u8 0]⟩
def ti448 : TI := ⟨2, 2, (.struct [(0, 5), (1, 5)]), [.lit .u8 0, .lit .u8 0]⟩
def ti449 : TI := ⟨2, 2, (.struct [(0, 5), (1, 5)]), [.lit .u8 0, .lit .u8 0]⟩
def ti450 : TI := ⟨32, 32, (.array 16 449), [.lit .u8 0, .lit .u8 0, .lit .u8 0, .lit .u8 0, .lit .u8 0, .lit .u8 0, .lit .u8 0, .lit .u8 0, .lit .u8 0, .lit .u8 0, .lit .u8 0, .lit .u8 0, .lit .u8 0, .lit .u8 0, .lit .u8 0, .lit .u8 0, .lit .u8 0, .lit .u8 0, .lit .u8 0, .lit .u8 0, .lit .u8 0, .lit .u8 0, .lit .u8 0, .lit .u8 0, .lit .u8 0, .lit .u8 0, .lit .u8 0, .lit .u8 0, .lit .u8 0, .lit .u8 0, .lit .u8 0, .lit .u8 0]⟩
def ti451 : TI := ⟨1, 8, .other, [.val .nilFunc]⟩
def ti452 : TI := ⟨1, 8, .other, [.val .nilFunc]⟩
def ti453 : TI := ⟨1, 8, .other, [.val .nilFunc]⟩
def ti454 : TI := ⟨1, 8, (.pointer 5), [.val (.pointer none)]⟩
def ti455 : TI := ⟨1, 8, (.pointer 457), [.val (.pointer none)]⟩
def ti456 : TI := ⟨1, 16, (.struct [(0, 9)]), [.str ByteArray.empty]⟩
def ti457 : TI := ⟨1, 16, (.struct [(0, 9)]), [.str ByteArray.empty]⟩
def ti458 : TI := ⟨1, 8, .other, [.val .nilFunc]⟩
def ti459 : TI := ⟨1, 8, .other, [.val .nilFunc]⟩
def ti460 : TI := ⟨1, 8, (.int .i64), [.lit .i64 0]⟩
def ti462 : TI := ⟨1, 8, .other, [.val .nilFunc]⟩
def ti463 : TI := ⟨1, 8, .other, [.val .nilFunc]⟩
def ti464 : TI := ⟨1, 8, .other, [.val .nilFunc]⟩
def ti465 : TI := ⟨1, 8, .other, [.val .nilFunc]⟩
def ti466 : TI := ⟨1, 8, .other, [.val .nilFunc]⟩
def ti467 : TI := ⟨1, 4, (.int .u32), [.lit .u32 0]⟩
def ti468 : TI := ⟨20, 160, (.array 20 249), [.lit .u64 0, .lit .u64 0, .lit .u64 0, .lit .u64 0, .lit .u64 0, .lit .u64 0, .lit .u64 0, .lit .u64 0, .lit .u64 0, .lit .u64 0, .lit .u64 0, .lit .u64 0, .lit .u64 0, .lit .u64 0, .lit .u64 0, .lit .u64 0, .lit .u64 0, .lit .u64 0, .lit .u64 0, .lit .u64 0]⟩
def ti469 : TI := ⟨65, 65, (.array 65 5), [.lit .u8 0, .lit .u8 0, .lit .u8 0, .lit .u8 0, .lit .u8 0, .lit .u8 0, .lit .u8 0, .lit .u8 0, .lit .u8 0, .lit .u8 0, .lit .u8 0, .lit .u8 0, .lit .u8 0, .lit .u8 0, .lit .u8 0, .lit .u8 0, .lit .u8 0, .lit .u8 0, .lit .u8 0, .lit .u8 0, .lit .u8 0, .lit .u8 0, .lit .u8 0, .lit .u8 0, .lit .u8 0, .lit .u8 0, .lit .u8 0, .lit .u8 0, .lit .u8 0, .lit .u8 0, .lit .u8 0, .lit .u8 0, .lit .u8 0, .lit .u8 0, .lit .u8 0, .lit .u8 0, .lit .u8 0, .lit .u8 0, .lit .u8 0, .lit .u8 0, .lit .u8 0, .lit .u8 0, .lit .u8 0, .lit .u8 0, .lit .u8 0, .lit .u8 0, .lit .u8 0, .lit .u8 0, .lit .u8 0, .lit .u8 0, .lit .u8 0, .lit .u8 0, .lit .u8 0, .lit .u8 0, .lit .u8 0, .lit .u8 0, .lit .u8 0, .lit .u8 0, .lit .u8 0, .lit .u8 0, .lit .u8 0, .lit .u8 0, .lit .u8 0, .lit .u8 0, .lit .u8 0]⟩
def ti470 : TI := ⟨1, 8, .other, [.val .nilFunc]⟩
def ti471 : TI := ⟨1, 8, .other, [.val .nilFunc]⟩
def ti472 : TI := ⟨1, 8, .other, [.val .nilFunc]⟩
def ti473 : TI := ⟨1, 8, .other, [.val .nilFunc]⟩
def ti474 : TI := ⟨1, 8, .other, [.val .nilFunc]⟩
def ti475 : TI := ⟨1, 8, .other, [.val .nilFunc]⟩
def ti476 : TI := ⟨1, 8, (.pointer 478), [.val (.pointer none)]⟩
def ti477 : TI := ⟨2, 32, (.struct [(0, 476), (1, 162)]), [.val (.pointer none), .val (.slice none 0 0)]⟩
def ti478 : TI := ⟨2, 32, (.struct [(0, 476), (1, 162)]), [.val (.pointer none), .val (.slice none 0 0)]⟩
def ti479 : TI := ⟨1, 8, .other, [.val .nilFunc]⟩
def ti480 : TI := ⟨1, 8, .other, [.val .nilFunc]⟩
def ti481 : TI := ⟨1, 8, (.int .u64), [.lit .u64 0]⟩
def ti482 : TI := ⟨1, 8, .other, [.val .nilFunc]⟩
def ti483 : TI := ⟨1, 8, .other, [.val .nilFunc]⟩
def ti484 : TI := ⟨1, 8, .other, [.val .nilFunc]⟩
def ti485 : TI := ⟨1, 8, (.pointer 3), [.val (.pointer none)]⟩
def ti486 : TI := ⟨1, 8, .other, [.val .nilFunc]⟩
def ti487 : TI := ⟨1, 8, .other, [.val .nilFunc]⟩
def ti488 : TI := ⟨1, 8, .other, [.val .nilFunc]⟩
def ti489 : TI := ⟨1, 8, .other, [.val .nilFunc]⟩
def ti490 : TI := ⟨1, 8, .other, [.val .nilFunc]⟩
def ti491 : TI := ⟨1, 8, (.pointer 481), [.val (.pointer none)]⟩
def ti492 : TI := ⟨1, 8, .other, [.val .nilFunc]⟩
def ti493 : TI := ⟨32, 32, (.array 32 5), [.lit .u8 0, .lit .u8 0, .lit .u8 0, .lit .u8 0, .lit .u8 0, .lit .u8 0, .lit .u8 0, .lit .u8 0, .lit .u8 0, .lit .u8 0, .lit .u8 0, .lit .u8 0, .lit .u8 0, .lit .u8 0, .lit .u8 0, .lit .u8 0, .lit .u8 0, .lit .u8 0, .lit .u8 0, .lit .u8 0, .lit .u8 0, .lit .u8 0, .lit .u8 0, .lit .u8 0, .lit .u8 0, .lit .u8 0, .lit .u8 0, .lit .u8 0, .lit .u8 0, .lit .u8 0, .lit .u8 0, .lit .u8 0]⟩
def ti494 : TI := ⟨64, 64, (.array 64 5), [.lit .u8 0, .lit .u8 0, .lit .u8 0, .lit .u8 0, .lit .u8 0, .lit .u8 0, .lit .u8 0, .lit .u8 0, .lit .u8 0, .lit .u8 0, .lit .u8 0, .lit .u8 0, .lit .u8 0, .lit .u8 0, .lit .u8 0, .lit .u8 0, .lit .u8 0, .lit .u8 0, .lit .u8 0, .lit .u8 0, .lit .u8 0, .lit .u8 0, .lit .u8 0, .lit .u8 0, .lit .u8 0, .lit .u8 0, .lit .u8 0, .lit .u8 0, .lit .u8 0, .lit .u8 0, .lit .u8 0, .lit .u8 0, .lit .u8 0, .lit .u8 0, .lit .u8 0, .lit .u8 0, .lit .u8 0, .lit .u8 0, .lit .u8 0, .lit .u8 0, .lit .u8 0, .lit .u8 0, .lit .u8 0, .lit .u8 0, .lit .u8 0, .lit .u8 0, .lit .u8 0, .lit .u8 0, .lit .u8 0, .lit .u8 0, .lit .u8 0, .lit .u8 0, .lit .u8 0, .lit .u8 0, .lit .u8 0, .lit .u8 0, .lit .u8 0, .lit .u8 0, .lit .u8 0, .lit .u8 0, .lit .u8 0, .lit .u8 0, .lit .u8 0, .lit .u8 0]⟩
def ti495 : TI := ⟨1, 8, .other, [.val .nilFunc]⟩
def ti496 : TI := ⟨1, 8, .other, [.val (.pointer none)]⟩
def ti497 : TI := ⟨1, 8, .other, [.val .nilFunc]⟩
def ti498 : TI := ⟨1, 8, .other, [.val .nilFunc]⟩
def ti500 : TI := ⟨1, 8, .other, [.val .nilFunc]⟩
def ti503 : TI := ⟨0, 0, (.array 0 16), []⟩
def ti506 : TI := ⟨1, 1, (.int .u8), [.lit .u8 0]⟩
def ti507 : TI := ⟨1, 1, (.int .u8), [.lit .u8 0]⟩
def ti508 : TI := ⟨1, 8, .other, [.val .nilFunc]⟩
def ti509 : TI := ⟨1, 4, (.int .i32), [.lit .i32 0]⟩
def ti510 : TI := ⟨1, 4, (.int .i32), [.lit .i32 0]⟩
def ti513 : TI := ⟨1, 8, .other, [.val .nilFunc]⟩
def ti514 : TI := ⟨1, 8, .other, [.val .nilFunc]⟩
def ti515 : TI := ⟨1, 8, .other, [.val .nilFunc]⟩
def tab : TT := (.node (.node (.node (.node (.node (.node (.node (.node (.node .leaf 1 ti1 .leaf) 2 ti2 (.node .leaf 3 ti3 .leaf)) 4 ti4 (.node (.node .leaf 5 ti5 .leaf) 6 ti6 (.node .leaf 7 ti7 .leaf))) 8 ti8 (.node (.node (.node .leaf 9 ti9 .leaf) 10 ti10 (.node .leaf 11 ti11 .leaf)) 12 ti12 (.node (.node .leaf 15 ti15 .leaf) 16 ti16 .leaf))) 17 ti17 (.node (.node (.node (.node .leaf 20 ti20 .leaf) 21 ti21 (.node .leaf 22 ti22 .leaf)) 23 ti23 (.node (.node .leaf 24 ti24 .leaf) 25 ti25 .leaf)) 26 ti26 (.node (.node (.node .leaf 27 ti27 .leaf) 29 ti29 (.node .leaf 30 ti30 .leaf)) 31 ti31 (.node (.node .leaf 32 ti32 .leaf) 33 ti33 .leaf)))) 34 ti34 (.node (.node (.node (.node (.node .leaf 35 ti35 .leaf) 37 ti37 (.node .leaf 38 ti38 .leaf)) 40 ti40 (.node (.node .leaf 41 ti41 .leaf) 42 ti42 (.node .leaf 43 ti43 .leaf))) 44 ti44 (.node (.node (.node .leaf 45 ti45 .leaf) 46 ti46 (.node .leaf 47 ti47 .leaf)) 48 ti48 (.node (.node .leaf 49 ti49 .leaf) 50 ti50 .leaf))) 51 ti51 (.node (.node (.node (.node .leaf 52 ti52 .leaf) 53 ti53 (.node .leaf 54 ti54 .leaf)) 55 ti55 (.node (.node .leaf 56 ti56 .leaf) 57 ti57 .leaf)) 58 ti58 (.node (.node (.node .leaf 59 ti59 .leaf) 60 ti60 (.node .leaf 61 ti61 .leaf)) 62 ti62 (.node (.node .leaf 64 ti64 .leaf) 66 ti66 .leaf))))) 67 ti67 (.node (.node (.node (.node (.node (.node .leaf 68 ti68 .leaf) 69 ti69 (.node .leaf 70 ti70 .leaf)) 71 ti71 (.node (.node .leaf 72 ti72 .leaf) 73 ti73 (.node .leaf 74 ti74 .leaf))) 75 ti75 (.node (.node (.node .leaf 76 ti76 .leaf) 77 ti77 (.node .leaf 78 ti78 .leaf)) 79 ti79 (.node (.node .leaf 80 ti80 .leaf) 82 ti82 .leaf))) 83 ti83 (.node (.node (.node (.node .leaf 84 ti84 .leaf) 85 ti85 (.node .leaf 86 ti86 .leaf)) 87 ti87 (.node (.node .leaf 88 ti88 .leaf) 89 ti89 .leaf)) 90 ti90 (.node (.node (.node .leaf 91 ti91 .leaf) 92 ti92 (.node .leaf 93 ti93 .leaf)) 95 ti95 (.node (.node .leaf 96 ti96 .leaf) 97 ti97 .leaf)))) 98 ti98 (.node (.node (.node (.node (.node .leaf 99 ti99 .leaf) 100 ti100 (.node .leaf 102 ti102 .leaf)) 103 ti103 (.node (.node .leaf 104 ti104 .leaf) 105 ti105 (.node .leaf 106 ti106 .leaf))) 107 ti107 (.node (.node (.node .leaf 108 ti108 .leaf) 109 ti109 (.node .leaf 110 ti110 .leaf)) 111 ti111 (.node (.node .leaf 112 ti112 .leaf) 114 ti114 .leaf))) 115 ti115 (.node (.node (.node (.node .leaf 116 ti116 .leaf) 117 ti117 (.node .leaf 119 ti119 .leaf)) 120 ti120 (.node (.node .leaf 121 ti121 .leaf) 122 ti122 .leaf)) 123 ti123 (.node (.node (.node .leaf 124 ti124 .leaf) 125 ti125 (.node .leaf 126 ti126 .leaf)) 127 ti127 (.node (.node .leaf 128 ti128 .leaf) 129 ti129 .leaf)))))) 130 ti130 (.node (.node (.node (.node (.node (.node (.node .leaf 131 ti131 .leaf) 132 ti132 (.node .leaf 134 ti134 .leaf)) 135 ti135 (.node (.node .leaf 136 ti136 .leaf) 137 ti137 (.node .leaf 138 ti138 .leaf))) 139 ti139 (.node (.node (.node .leaf 141 ti141 .leaf) 142 ti142 (.node .leaf 143 ti143 .leaf)) 144 ti144 (.node (.node .leaf 145 ti145 .leaf) 146 ti146 .leaf))) 147 ti147 (.node (.node (.node (.node .leaf 148 ti148 .leaf) 149 ti149 (.node .leaf 150 ti150 .leaf)) 151 ti151 (.node (.node .leaf 153 ti153 .leaf) 154 ti154 .leaf)) 155 ti155 (.node (.node (.node .leaf 156 ti156 .leaf) 157 ti157 (.node .leaf 158 ti158 .leaf)) 159 ti159 (.node (.node .leaf 160 ti160 .leaf) 161 ti161 .leaf)))) 162 ti162 (.node (.node (.node (.node (.node .leaf 163 ti163 .leaf) 165 ti165 (.node .leaf 166 ti166 .leaf)) 167 ti167 (.node (.node .leaf 168 ti168 .leaf) 169 ti169 (.node .leaf 170 ti170 .leaf))) 171 ti171 (.node (.node (.node .leaf 172 ti172 .leaf) 173 ti173 (.node .leaf 174 ti174 .leaf)) 175 ti175 (.node (.node .leaf 176 ti176 .leaf) 177 ti177 .leaf))) 178 ti178 (.node (.node (.node (.node .leaf 179 ti179 .leaf) 180 ti180 (.node .leaf 182 ti182 .leaf)) 183 ti183 (.node (.node .leaf 184 ti184 .leaf) 185 ti185 .leaf)) 186 ti186 (.node (.node (.node .leaf 187 ti187 .leaf) 188 ti188 (.node .leaf 189 ti189 .leaf)) 190 ti190 (.node (.node .leaf 191 ti191 .leaf) 192 ti192 .leaf))))) 193 ti193 (.node (.node (.node (.node (.node (.node .leaf 194 ti194 .leaf) 195 ti195 (.node .leaf 196 ti196 .leaf)) 197 ti197 (.node (.node .leaf 198 ti198 .leaf) 199 ti199 (.node .leaf 200 ti200 .leaf))) 201 ti201 (.node (.node (.node .leaf 202 ti202 .leaf) 203 ti203 (.node .leaf 204 ti204 .leaf)) 205 ti205 (.node (.node .leaf 206 ti206 .leaf) 207 ti207 .leaf))) 208 ti208 (.node (.node (.node (.node .leaf 209 ti209 .leaf) 210 ti210 (.node .leaf 211 ti211 .leaf)) 212 ti212 (.node (.node .leaf 213 ti213 .leaf) 214 ti214 .leaf)) 216 ti216 (.node (.node (.node .leaf 218 ti218 .leaf) 219 ti219 (.node .leaf 220 ti220 .leaf)) 222 ti222 (.node (.node .leaf 223 ti223 .leaf) 224 ti224 .leaf)))) 225 ti225 (.node (.node (.node (.node (.node .leaf 226 ti226 .leaf) 227 ti227 (.node .leaf 228 ti228 .leaf)) 230 ti230 (.node (.node .leaf 231 ti231 .leaf) 232 ti232 .leaf)) 233 ti233 (.node (.node (.node .leaf 234 ti234 .leaf) 235 ti235 (.node .leaf 236 ti236 .leaf)) 237 ti237 (.node (.node .leaf 238 ti238 .leaf) 239 ti239 .leaf))) 241 ti241 (.node (.node (.node (.node .leaf 242 ti242 .leaf) 243 ti243 (.node .leaf 245 ti245 .leaf)) 246 ti246 (.node (.node .leaf 247 ti247 .leaf) 248 ti248 .leaf)) 249 ti249 (.node (.node (.node .leaf 250 ti250 .leaf) 251 ti251 (.node .leaf 253 ti253 .leaf)) 254 ti254 (.node (.node .leaf 255 ti255 .leaf) 256 ti256 .leaf))))))) 257 ti257 (.node (.node (.node (.node (.node (.node (.node (.node .leaf 258 ti258 .leaf) 259 ti259 (.node .leaf 260 ti260 .leaf)) 261 ti261 (.node (.node .leaf 262 ti262 .leaf) 263 ti263 (.node .leaf 264 ti264 .leaf))) 265 ti265 (.node (.node (.node .leaf 266 ti266 .leaf) 267 ti267 (.node .leaf 268 ti268 .leaf)) 269 ti269 (.node (.node .leaf 270 ti270 .leaf) 271 ti271 .leaf))) 272 ti272 (.node (.node (.node (.node .leaf 276 ti276 .leaf) 277 ti277 (.node .leaf 278 ti278 .leaf)) 279 ti279 (.node (.node .leaf 280 ti280 .leaf) 281 ti281 .leaf)) 282 ti282 (.node (.node (.node .leaf 283 ti283 .leaf) 284 ti284 (.node .leaf 285 ti285 .leaf)) 286 ti286 (.node (.node .leaf 287 ti287 .leaf) 288 ti288 .leaf)))) 289 ti289 (.node (.node (.node (.node (.node .leaf 290 ti290 .leaf) 291 ti291 (.node .leaf 292 ti292 .leaf)) 293 ti293 (.node (.node .leaf 294 ti294 .leaf) 295 ti295 (.node .leaf 296 ti296 .leaf))) 297 ti297 (.node (.node (.node .leaf 298 ti298 .leaf) 299 ti299 (.node .leaf 300 ti300 .leaf)) 301 ti301 (.node (.node .leaf 302 ti302 .leaf) 304 ti304 .leaf))) 306 ti306 (.node (.node (.node (.node .leaf 307 ti307 .leaf) 308 ti308 (.node .leaf 309 ti309 .leaf)) 310 ti310 (.node (.node .leaf 311 ti311 .leaf) 312 ti312 .leaf)) 313 ti313 (.node (.node (.node .leaf 314 ti314 .leaf) 315 ti315 (.node .leaf 316 ti316 .leaf)) 317 ti317 (.node (.node .leaf 318 ti318 .leaf) 319 ti319 .leaf))))) 320 ti320 (.node (.node (.node (.node (.node (.node .leaf 321 ti321 .leaf) 322 ti322 (.node .leaf 323 ti323 .leaf)) 324 ti324 (.node (.node .leaf 325 ti325 .leaf) 326 ti326 (.node .leaf 328 ti328 .leaf))) 329 ti329 (.node (.node (.node .leaf 330 ti330 .leaf) 332 ti332 (.node .leaf 333 ti333 .leaf)) 334 ti334 (.node (.node .leaf 335 ti335 .leaf) 336 ti336 .leaf))) 338 ti338 (.node (.node (.node (.node .leaf 339 ti339 .leaf) 340 ti340 (.node .leaf 341 ti341 .leaf)) 343 ti343 (.node (.node .leaf 344 ti344 .leaf) 345 ti345 .leaf)) 346 ti346 (.node (.node (.node .leaf 347 ti347 .leaf) 348 ti348 (.node .leaf 349 ti349 .leaf)) 350 ti350 (.node (.node .leaf 351 ti351 .leaf) 352 ti352 .leaf)))) 353 ti353 (.node (.node (.node (.node (.node .leaf 354 ti354 .leaf) 355 ti355 (.node .leaf 356 ti356 .leaf)) 357 ti357 (.node (.node .leaf 358 ti358 .leaf) 359 ti359 (.node .leaf 361 ti361 .leaf))) 362 ti362 (.node (.node (.node .leaf 363 ti363 .leaf) 364 ti364 (.node .leaf 365 ti365 .leaf)) 367 ti367 (.node (.node .leaf 369 ti369 .leaf) 370 ti370 .leaf))) 371 ti371 (.node (.node (.node (.node .leaf 373 ti373 .leaf) 374 ti374 (.node .leaf 375 ti375 .leaf)) 376 ti376 (.node (.node .leaf 377 ti377 .leaf) 378 ti378 .leaf)) 379 ti379 (.node (.node (.node .leaf 380 ti380 .leaf) 381 ti381 (.node .leaf 382 ti382 .leaf)) 383 ti383 (.node (.node .leaf 384 ti384 .leaf) 385 ti385 .leaf)))))) 386 ti386 (.node (.node (.node (.node (.node (.node (.node .leaf 387 ti387 .leaf) 388 ti388 (.node .leaf 389 ti389 .leaf)) 390 ti390 (.node (.node .leaf 391 ti391 .leaf) 392 ti392 (.node .leaf 393 ti393 .leaf))) 395 ti395 (.node (.node (.node .leaf 396 ti396 .leaf) 397 ti397 (.node .leaf 399 ti399 .leaf)) 400 ti400 (.node (.node .leaf 401 ti401 .leaf) 402 ti402 .leaf))) 403 ti403 (.node (.node (.node (.node .leaf 404 ti404 .leaf) 405 ti405 (.node .leaf 406 ti406 .leaf)) 407 ti407 (.node (.node .leaf 408 ti408 .leaf) 409 ti409 .leaf)) 410 ti410 (.node (.node (.node .leaf 411 ti411 .leaf) 412 ti412 (.node .leaf 413 ti413 .leaf)) 414 ti414 (.node (.node .leaf 415 ti415 .leaf) 416 ti416 .leaf)))) 417 ti417 (.node (.node (.node (.node (.node .leaf 418 ti418 .leaf) 419 ti419 (.node .leaf 420 ti420 .leaf)) 421 ti421 (.node (.node .leaf 422 ti422 .leaf) 423 ti423 (.node .leaf 425 ti425 .leaf))) 428 ti428 (.node (.node (.node .leaf 429 ti429 .leaf) 430 ti430 (.node .leaf 431 ti431 .leaf)) 432 ti432 (.node (.node .leaf 433 ti433 .leaf) 434 ti434 .leaf))) 435 ti435 (.node (.node (.node (.node .leaf 437 ti437 .leaf) 438 ti438 (.node .leaf 439 ti439 .leaf)) 440 ti440 (.node (.node .leaf 442 ti442 .leaf) 443 ti443 .leaf)) 444 ti444 (.node (.node (.node .leaf 445 ti445 .leaf) 446 ti446 (.node .leaf 447 ti447 .leaf)) 448 ti448 (.node (.node .leaf 449 ti449 .leaf) 450 ti450 .leaf))))) 451 ti451 (.node (.node (.node (.node (.node (.node .leaf 452 ti452 .leaf) 453 ti453 (.node .leaf 454 ti454 .leaf)) 455 ti455 (.node (.node .leaf 456 ti456 .leaf) 457 ti457 (.node .leaf 458 ti458 .leaf))) 459 ti459 (.node (.node (.node .leaf 460 ti460 .leaf) 462 ti462 (.node .leaf 463 ti463 .leaf)) 464 ti464 (.node (.node .leaf 465 ti465 .leaf) 466 ti466 .leaf))) 467 ti467 (.node (.node (.node (.node .leaf 468 ti468 .leaf) 469 ti469 (.node .leaf 470 ti470 .leaf)) 471 ti471 (.node (.node .leaf 472 ti472 .leaf) 473 ti473 .leaf)) 474 ti474 (.node (.node (.node .leaf 475 ti475 .leaf) 476 ti476 (.node .leaf 477 ti477 .leaf)) 478 ti478 (.node (.node .leaf 479 ti479 .leaf) 480 ti480 .leaf)))) 481 ti481 (.node (.node (.node (.node (.node .leaf 482 ti482 .leaf) 483 ti483 (.node .leaf 484 ti484 .leaf)) 485 ti485 (.node (.node .leaf 486 ti486 .leaf) 487 ti487 .leaf)) 488 ti488 (.node (.node (.node .leaf 489 ti489 .leaf) 490 ti490 (.node .leaf 491 ti491 .leaf)) 492 ti492 (.node (.node .leaf 493 ti493 .leaf) 494 ti494 .leaf))) 495 ti495 (.node (.node (.node (.node .leaf 496 ti496 .leaf) 497 ti497 (.node .leaf 498 ti498 .leaf)) 500 ti500 (.node (.node .leaf 503 ti503 .leaf) 506 ti506 .leaf)) 507 ti507 (.node (.node (.node .leaf 508 ti508 .leaf) 509 ti509 (.node .leaf 510 ti510 .leaf)) 513 ti513 (.node (.node .leaf 514 ti514 .leaf) 515 ti515 .leaf))))))))
theorem ok1 : TI.check Tryz.prog 1 ti1 = true := by kernel_rfl
theorem ok2 : TI.check Tryz.prog 2 ti2 = true := by kernel_rfl
theorem ok3 : TI.check Tryz.prog 3 ti3 = true := by kernel_rfl
theorem ok4 : TI.check Tryz.prog 4 ti4 = true := by kernel_rfl
theorem ok5 : TI.check Tryz.prog 5 ti5 = true := by kernel_rfl
theorem ok6 : TI.check Tryz.prog 6 ti6 = true := by kernel_rfl
theorem ok7 : TI.check Tryz.prog 7 ti7 = true := by kernel_rfl
theorem ok8 : TI.check Tryz.prog 8 ti8 = true := by kernel_rfl
theorem ok9 : TI.check Tryz.prog 9 ti9 = true := by kernel_rfl
theorem ok10 : TI.check Tryz.prog 10 ti10 = true := by kernel_rfl
theorem ok11 : TI.check Tryz.prog 11 ti11 = true := by kernel_rfl
theorem ok12 : TI.check Tryz.prog 12 ti12 = true := by kernel_rfl
theorem ok15 : TI.check Tryz.prog 15 ti15 = true := by kernel_rfl
theorem ok16 : TI.check Tryz.prog 16 ti16 = true := by kernel_rfl
theorem ok17 : TI.check Tryz.prog 17 ti17 = true := by kernel_rfl
theorem ok20 : TI.check Tryz.prog 20 ti20 = true := by kernel_rfl
theorem ok21 : TI.check Tryz.prog 21 ti21 = true := by kernel_rfl
theorem ok22 : TI.check Tryz.prog 22 ti22 = true := by kernel_rfl
theorem ok23 : TI.check Tryz.prog 23 ti23 = true := by kernel_rfl
theorem ok24 : TI.check Tryz.prog 24 ti24 = true := by kernel_rfl
theorem ok25 : TI.check Tryz.prog 25 ti25 = true := by kernel_rfl
theorem ok26 : TI.check Tryz.prog 26 ti26 = true := by kernel_rfl
theorem ok27 : TI.check Tryz.prog 27 ti27 = true := by kernel_rfl
theorem ok29 : TI.check Tryz.prog 29 ti29 = true := by kernel_rfl
theorem ok30 : TI.check Tryz.prog 30 ti30 = true := by kernel_rfl
theorem ok31 : TI.check Tryz.prog 31 ti31 = true := by kernel_rfl
theorem ok32 : TI.check Tryz.prog 32 ti32 = true := by kernel_rfl
theorem ok33 : TI.check Tryz.prog 33 ti33 = true := by kernel_rfl
theorem ok34 : TI.check Tryz.prog 34 ti34 = true := by kernel_rfl
theorem ok35 : TI.check Tryz.prog 35 ti35 = true := by kernel_rfl
theorem ok37 : TI.check Tryz.prog 37 ti37 = true := by kernel_rfl
theorem ok38 : TI.check Tryz.prog 38 ti38 = true := by kernel_rfl
theorem ok40 : TI.check Tryz.prog 40 ti40 = true := by kernel_rfl
theorem ok41 : TI.check Tryz.prog 41 ti41 = true := by kernel_rfl
theorem ok42 : TI.check Tryz.prog 42 ti42 = true := by kernel_rfl
theorem ok43 : TI.check Tryz.prog 43 ti43 = true := by kernel_rfl
theorem ok44 : TI.check Tryz.prog 44 ti44 = true := by kernel_rfl
theorem ok45 : TI.check Tryz.prog 45 ti45 = true := by kernel_rfl
theorem ok46 : TI.check Tryz.prog 46 ti46 = true := by kernel_rfl
theorem ok47 : TI.check Tryz.prog 47 ti47 = true := by kernel_rfl
theorem ok48 : TI.check Tryz.prog 48 ti48 = true := by kernel_rfl
theorem ok49 : TI.check Tryz.prog 49 ti49 = true := by kernel_rfl
theorem ok50 : TI.check Tryz.prog 50 ti50 = true := by kernel_rfl
theorem ok51 : TI.check Tryz.prog 51 ti51 = true := by kernel_rfl
theorem ok52 : TI.check Tryz.prog 52 ti52 = true := by kernel_rfl
theorem ok53 : TI.check Tryz.prog 53 ti53 = true := by kernel_rfl
theorem ok54 : TI.check Tryz.prog 54 ti54 = true := by kernel_rfl
theorem ok55 : TI.check Tryz.prog 55 ti55 = true := by kernel_rfl
theorem ok56 : TI.check Tryz.prog 56 ti56 = true := by kernel_rfl
theorem ok57 : TI.check Tryz.prog 57 ti57 = true := by kernel_rfl
theorem ok58 : TI.check Tryz.prog 58 ti58 = true := by kernel_rfl
theorem ok59 : TI.check Tryz.prog 59 ti59 = true := by kernel_rfl
theorem ok60 : TI.check Tryz.prog 60 ti60 = true := by kernel_rfl
theorem ok61 : TI.check Tryz.prog 61 ti61 = true := by kernel_rfl
theorem ok62 : TI.check Tryz.prog 62 ti62 = true := by kernel_rfl
theorem ok64 : TI.check Tryz.prog 64 ti64 = true := by kernel_rfl
theorem ok66 : TI.check Tryz.prog 66 ti66 = true := by kernel_rfl
theorem ok67 : TI.check Tryz.prog 67 ti67 = true := by kernel_rfl
theorem ok68 : TI.check Tryz.prog 68 ti68 = true := by kernel_rfl
theorem ok69 : TI.check Tryz.prog 69 ti69 = true := by kernel_rfl
theorem ok70 : TI.check Tryz.prog 70 ti70 = true := by kernel_rfl
theorem ok71 : TI.check Tryz.prog 71 ti71 = true := by kernel_rfl
theorem ok72 : TI.check Tryz.prog 72 ti72 = true := by kernel_rfl
theorem ok73 : TI.check Tryz.prog 73 ti73 = true := by kernel_rfl
theorem ok74 : TI.check Tryz.prog 74 ti74 = true := by kernel_rfl
theorem ok75 : TI.check Tryz.prog 75 ti75 = true := by kernel_rfl
theorem ok76 : TI.check Tryz.prog 76 ti76 = true := by kernel_rfl
theorem ok77 : TI.check Tryz.prog 77 ti77 = true := by kernel_rfl
theorem ok78 : TI.check Tryz.prog 78 ti78 = true := by kernel_rfl
theorem ok79 : TI.check Tryz.prog 79 ti79 = true := by kernel_rfl
theorem ok80 : TI.check Tryz.prog 80 ti80 = true := by kernel_rfl
theorem ok82 : TI.check Tryz.prog 82 ti82 = true := by kernel_rfl
theorem ok83 : TI.check Tryz.prog 83 ti83 = true := by kernel_rfl
theorem ok84 : TI.check Tryz.prog 84 ti84 = true := by kernel_rfl
theorem ok85 : TI.check Tryz.prog 85 ti85 = true := by kernel_rfl
theorem ok86 : TI.check Tryz.prog 86 ti86 = true := by kernel_rfl
theorem ok87 : TI.check Tryz.prog 87 ti87 = true := by kernel_rfl
theorem ok88 : TI.check Tryz.prog 88 ti88 = true := by kernel_rfl
theorem ok89 : TI.check Tryz.prog 89 ti89 = true := by kernel_rfl
theorem ok90 : TI.check Tryz.prog 90 ti90 = true := by kernel_rfl
theorem ok91 : TI.check Tryz.prog 91 ti91 = true := by kernel_rfl
theorem ok92 : TI.check Tryz.prog 92 ti92 = true := by kernel_rfl
theorem ok93 : TI.check Tryz.prog 93 ti93 = true := by kernel_rfl
theorem ok95 : TI.check Tryz.prog 95 ti95 = true := by kernel_rfl
theorem ok96 : TI.check Tryz.prog 96 ti96 = true := by kernel_rfl
theorem ok97 : TI.check Tryz.prog 97 ti97 = true := by kernel_rfl
theorem ok98 : TI.check Tryz.prog 98 ti98 = true := by kernel_rfl
theorem ok99 : TI.check Tryz.prog 99 ti99 = true := by kernel_rfl
theorem ok100 : TI.check Tryz.prog 100 ti100 = true := by kernel_rfl
theorem ok102 : TI.check Tryz.prog 102 ti102 = true := by kernel_rfl
theorem ok103 : TI.check Tryz.prog 103 ti103 = true := by kernel_rfl
theorem ok104 : TI.check Tryz.prog 104 ti104 = true := by kernel_rfl
theorem ok105 : TI.check Tryz.prog 105 ti105 = true := by kernel_rfl
theorem ok106 : TI.check Tryz.prog 106 ti106 = true := by kernel_rfl
theorem ok107 : TI.check Tryz.prog 107 ti107 = true := by kernel_rfl
theorem ok108 : TI.check Tryz.prog 108 ti108 = true := by kernel_rfl
theorem ok109 : TI.check Tryz.prog 109 ti109 = true := by kernel_rfl
theorem ok110 : TI.check Tryz.prog 110 ti110 = true := by kernel_rfl
theorem ok111 : TI.check Tryz.prog 111 ti111 = true := by kernel_rfl
theorem ok112 : TI.check Tryz.prog 112 ti112 = true := by kernel_rfl
theorem ok114 : TI.check Tryz.prog 114 ti114 = true := by kernel_rfl
theorem ok115 : TI.check Tryz.prog 115 ti115 = true := by kernel_rfl
theorem ok116 : TI.check Tryz.prog 116 ti116 = true := by kernel_rfl
theorem ok117 : TI.check Tryz.prog 117 ti117 = true := by kernel_rfl
theorem ok119 : TI.check Tryz.prog 119 ti119 = true := by kernel_rfl
theorem ok120 : TI.check Tryz.prog 120 ti120 = true := by kernel_rfl
theorem ok121 : TI.check Tryz.prog 121 ti121 = true := by kernel_rfl
theorem ok122 : TI.check Tryz.prog 122 ti122 = true := by kernel_rfl
theorem ok123 : TI.check Tryz.prog 123 ti123 = true := by kernel_rfl
theorem ok124 : TI.check Tryz.prog 124 ti124 = true := by kernel_rfl
theorem ok125 : TI.check Tryz.prog 125 ti125 = true := by kernel_rfl
theorem ok126 : TI.check Tryz.prog 126 ti126 = true := by kernel_rfl
theorem ok127 : TI.check Tryz.prog 127 ti127 = true := by kernel_rfl
theorem ok128 : TI.check Tryz.prog 128 ti128 = true := by kernel_rfl
theorem ok129 : TI.check Tryz.prog 129 ti129 = true := by kernel_rfl
theorem ok130 : TI.check Tryz.prog 130 ti130 = true := by kernel_rfl
theorem ok131 : TI.check Tryz.prog 131 ti131 = true := by kernel_rfl
theorem ok132 : TI.check Tryz.prog 132 ti132 = true := by kernel_rfl
theorem ok134 : TI.check Tryz.prog 134 ti134 = true := by kernel_rfl
theorem ok135 : TI.check Tryz.prog 135 ti135 = true := by kernel_rfl
theorem ok136 : TI.check Tryz.prog 136 ti136 = true := by kernel_rfl
theorem ok137 : TI.check Tryz.prog 137 ti137 = true := by kernel_rfl
theorem ok138 : TI.check Tryz.prog 138 ti138 = true := by kernel_rfl
theorem ok139 : TI.check Tryz.prog 139 ti139 = true := by kernel_rfl
theorem ok141 : TI.check Tryz.prog 141 ti141 = true := by kernel_rfl
theorem ok142 : TI.check Tryz.prog 142 ti142 = true := by kernel_rfl
theorem ok143 : TI.check Tryz.prog 143 ti143 = true := by kernel_rfl
theorem ok144 : TI.check Tryz.prog 144 ti144 = true := by kernel_rfl
theorem ok145 : TI.check Tryz.prog 145 ti145 = true := by kernel_rfl
theorem ok146 : TI.check Tryz.prog 146 ti146 = true := by kernel_rfl
theorem ok147 : TI.check Tryz.prog 147 ti147 = true := by kernel_rfl
theorem ok148 : TI.check Tryz.prog 148 ti148 = true := by kernel_rfl
theorem ok149 : TI.check Tryz.prog 149 ti149 = true := by kernel_rfl
theorem ok150 : TI.check Tryz.prog 150 ti150 = true := by kernel_rfl
theorem ok151 : TI.check Tryz.prog 151 ti151 = true := by kernel_rfl
theorem ok153 : TI.check Tryz.prog 153 ti153 = true := by kernel_rfl
theorem ok154 : TI.check Tryz.prog 154 ti154 = true := by kernel_rfl
theorem ok155 : TI.check Tryz.prog 155 ti155 = true := by kernel_rfl
theorem ok156 : TI.check Tryz.prog 156 ti156 = true := by kernel_rfl
theorem ok157 : TI.check Tryz.prog 157 ti157 = true := by kernel_rfl
theorem ok158 : TI.check Tryz.prog 158 ti158 = true := by kernel_rfl
theorem ok159 : TI.check Tryz.prog 159 ti159 = true := by kernel_rfl
theorem ok160 : TI.check Tryz.prog 160 ti160 = true := by kernel_rfl
theorem ok161 : TI.check Tryz.prog 161 ti161 = true := by kernel_rfl
theorem ok162 : TI.check Tryz.prog 162 ti162 = true := by kernel_rfl
theorem ok163 : TI.check Tryz.prog 163 ti163 = true := by kernel_rfl
theorem ok165 : TI.check Tryz.prog 165 ti165 = true := by kernel_rfl
theorem ok166 : TI.check Tryz.prog 166 ti166 = true := by kernel_rfl
theorem ok167 : TI.check Tryz.prog 167 ti167 = true := by kernel_rfl
theorem ok168 : TI.check Tryz.prog 168 ti168 = true := by kernel_rfl
theorem ok169 : TI.check Tryz.prog 169 ti169 = true := by kernel_rfl
theorem ok170 : TI.check Tryz.prog 170 ti170 = true := by kernel_rfl
theorem ok171 : TI.check Tryz.prog 171 ti171 = true := by kernel_rfl
theorem ok172 : TI.check Tryz.prog 172 ti172 = true := by kernel_rfl
theorem ok173 : TI.check Tryz.prog 173 ti173 = true := by kernel_rfl
theorem ok174 : TI.check Tryz.prog 174 ti174 = true := by kernel_rfl
theorem ok175 : TI.check Tryz.prog 175 ti175 = true := by kernel_rfl
theorem ok176 : TI.check Tryz.prog 176 ti176 = true := by kernel_rfl
theorem ok177 : TI.check Tryz.prog 177 ti177 = true := by kernel_rfl
theorem ok178 : TI.check Tryz.prog 178 ti178 = true := by kernel_rfl
theorem ok179 : TI.check Tryz.prog 179 ti179 = true := by kernel_rfl
theorem ok180 : TI.check Tryz.prog 180 ti180 = true := by kernel_rfl
theorem ok182 : TI.check Tryz.prog 182 ti182 = true := by kernel_rfl
theorem ok183 : TI.check Tryz.prog 183 ti183 = true := by kernel_rfl
theorem ok184 : TI.check Tryz.prog 184 ti184 = true := by kernel_rfl
theorem ok185 : TI.check Tryz.prog 185 ti185 = true := by kernel_rfl
theorem ok186 : TI.check Tryz.prog 186 ti186 = true := by kernel_rfl
theorem ok187 : TI.check Tryz.prog 187 ti187 = true := by kernel_rfl
theorem ok188 : TI.check Tryz.prog 188 ti188 = true := by kernel_rfl
theorem ok189 : TI.check Tryz.prog 189 ti189 = true := by kernel_rfl
theorem ok190 : TI.check Tryz.prog 190 ti190 = true := by kernel_rfl
theorem ok191 : TI.check Tryz.prog 191 ti191 = true := by kernel_rfl
theorem ok192 : TI.check Tryz.prog 192 ti192 = true := by kernel_rfl
theorem ok193 : TI.check Tryz.prog 193 ti193 = true := by kernel_rfl
theorem ok194 : TI.check Tryz.prog 194 ti194 = true := by kernel_rfl
theorem ok195 : TI.check Tryz.prog 195 ti195 = true := by kernel_rfl
theorem ok196 : TI.check Tryz.prog 196 ti196 = true := by kernel_rfl
theorem ok197 : TI.check Tryz.prog 197 ti197 = true := by kernel_rfl
theorem ok198 : TI.check Tryz.prog 198 ti198 = true := by kernel_rfl
theorem ok199 : TI.check Tryz.prog 199 ti199 = true := by kernel_rfl
theorem ok200 : TI.check Tryz.prog 200 ti200 = true := by kernel_rfl
theorem ok201 : TI.check Tryz.prog 201 ti201 = true := by kernel_rfl
theorem ok202 : TI.check Tryz.prog 202 ti202 = true := by kernel_rfl
theorem ok203 : TI.check Tryz.prog 203 ti203 = true := by kernel_rfl
theorem ok204 : TI.check Tryz.prog 204 ti204 = true := by kernel_rfl
theorem ok205 : TI.check Tryz.prog 205 ti205 = true := by kernel_rfl
theorem ok206 : TI.check Tryz.prog 206 ti206 = true := by kernel_rfl
theorem ok207 : TI.check Tryz.prog 207 ti207 = true := by kernel_rfl
theorem ok208 : TI.check Tryz.prog 208 ti208 = true := by kernel_rfl
theorem ok209 : TI.check Tryz.prog 209 ti209 = true := by kernel_rfl
theorem ok210 : TI.check Tryz.prog 210 ti210 = true := by kernel_rfl
theorem ok211 : TI.check Tryz.prog 211 ti211 = true := by kernel_rfl
theorem ok212 : TI.check Tryz.prog 212 ti212 = true := by kernel_rfl
theorem ok213 : TI.check Tryz.prog 213 ti213 = true := by kernel_rfl
theorem ok214 : TI.check Tryz.prog 214 ti214 = true := by kernel_rfl
theorem ok216 : TI.check Tryz.prog 216 ti216 = true := by kernel_rfl
theorem ok218 : TI.check Tryz.prog 218 ti218 = true := by kernel_rfl
theorem ok219 : TI.check Tryz.prog 219 ti219 = true := by kernel_rfl
theorem ok220 : TI.check Tryz.prog 220 ti220 = true := by kernel_rfl
theorem ok222 : TI.check Tryz.prog 222 ti222 = true := by kernel_rfl
theorem ok223 : TI.check Tryz.prog 223 ti223 = true := by kernel_rfl
theorem ok224 : TI.check Tryz.prog 224 ti224 = true := by kernel_rfl
theorem ok225 : TI.check Tryz.prog 225 ti225 = true := by kernel_rfl
theorem ok226 : TI.check Tryz.prog 226 ti226 = true := by kernel_rfl
theorem ok227 : TI.check Tryz.prog 227 ti227 = true := by kernel_rfl
theorem ok228 : TI.check Tryz.prog 228 ti228 = true := by kernel_rfl
theorem ok230 : TI.check Tryz.prog 230 ti230 = true := by kernel_rfl
theorem ok231 : TI.check Tryz.prog 231 ti231 = true := by kernel_rfl
theorem ok232 : TI.check Tryz.prog 232 ti232 = true := by kernel_rfl
theorem ok233 : TI.check Tryz.prog 233 ti233 = true := by kernel_rfl
theorem ok234 : TI.check Tryz.prog 234 ti234 = true := by kernel_rfl
theorem ok235 : TI.check Tryz.prog 235 ti235 = true := by kernel_rfl
theorem ok236 : TI.check Tryz.prog 236 ti236 = true := by kernel_rfl
theorem ok237 : TI.check Tryz.prog 237 ti237 = true := by kernel_rfl
theorem ok238 : TI.check Tryz.prog 238 ti238 = true := by kernel_rfl
theorem ok239 : TI.check Tryz.prog 239 ti239 = true := by kernel_rfl
theorem ok241 : TI.check Tryz.prog 241 ti241 = true := by kernel_rfl
theorem ok242 : TI.check Tryz.prog 242 ti242 = true := by kernel_rfl
theorem ok243 : TI.check Tryz.prog 243 ti243 = true := by kernel_rfl
theorem ok245 : TI.check Tryz.prog 245 ti245 = true := by kernel_rfl
theorem ok246 : TI.check Tryz.prog 246 ti246 = true := by kernel_rfl
theorem ok247 : TI.check Tryz.prog 247 ti247 = true := by kernel_rfl
theorem ok248 : TI.check Tryz.prog 248 ti248 = true := by kernel_rfl
theorem ok249 : TI.check Tryz.prog 249 ti249 = true := by kernel_rfl
theorem ok250 : TI.check Tryz.prog 250 ti250 = true := by kernel_rfl
theorem ok251 : TI.check Tryz.prog 251 ti251 = true := by kernel_rfl
theorem ok253 : TI.check Tryz.prog 253 ti253 = true := by kernel_rfl
theorem ok254 : TI.check Tryz.prog 254 ti254 = true := by kernel_rfl
theorem ok255 : TI.check Tryz.prog 255 ti255 = true := by kernel_rfl
theorem ok256 : TI.check Tryz.prog 256 ti256 = true := by kernel_rfl
theorem ok257 : TI.check Tryz.prog 257 ti257 = true := by kernel_rfl
theorem ok258 : TI.check Tryz.prog 258 ti258 = true := by kernel_rfl
theorem ok259 : TI.check Tryz.prog 259 ti259 = true := by kernel_rfl
theorem ok260 : TI.check Tryz.prog 260 ti260 = true := by kernel_rfl
theorem ok261 : TI.check Tryz.prog 261 ti261 = true := by kernel_rfl
theorem ok262 : TI.check Tryz.prog 262 ti262 = true := by kernel_rfl
theorem ok263 : TI.check Tryz.prog 263 ti263 = true := by kernel_rfl
theorem ok264 : TI.check Tryz.prog 264 ti264 = true := by kernel_rfl
theorem ok265 : TI.check Tryz.prog 265 ti265 = true := by kernel_rfl
theorem ok266 : TI.check Tryz.prog 266 ti266 = true := by kernel_rfl
theorem ok267 : TI.check Tryz.prog 267 ti267 = true := by kernel_rfl
theorem ok268 : TI.check Tryz.prog 268 ti268 = true := by kernel_rfl
theorem ok269 : TI.check Tryz.prog 269 ti269 = true := by kernel_rfl
theorem ok270 : TI.check Tryz.prog 270 ti270 = true := by kernel_rfl
theorem ok271 : TI.check Tryz.prog 271 ti271 = true := by kernel_rfl
theorem ok272 : TI.check Tryz.prog 272 ti272 = true := by kernel_rfl
theorem ok276 : TI.check Tryz.prog 276 ti276 = true := by kernel_rfl
theorem ok277 : TI.check Tryz.prog 277 ti277 = true := by kernel_rfl
theorem ok278 : TI.check Tryz.prog 278 ti278 = true := by kernel_rfl
theorem ok279 : TI.check Tryz.prog 279 ti279 = true := by kernel_rfl
theorem ok280 : TI.check Tryz.prog 280 ti280 = true := by kernel_rfl
theorem ok281 : TI.check Tryz.prog 281 ti281 = true := by kernel_rfl
theorem ok282 : TI.check Tryz.prog 282 ti282 = true := by kernel_rfl
theorem ok283 : TI.check Tryz.prog 283 ti283 = true := by kernel_rfl
theorem ok284 : TI.check Tryz.prog 284 ti284 = true := by kernel_rfl
theorem ok285 : TI.check Tryz.prog 285 ti285 = true := by kernel_rfl
theorem ok286 : TI.check Tryz.prog 286 ti286 = true := by kernel_rfl
theorem ok287 : TI.check Tryz.prog 287 ti287 = true := by kernel_rfl
theorem ok288 : TI.check Tryz.prog 288 ti288 = true := by kernel_rfl
theorem ok289 : TI.check Tryz.prog 289 ti289 = true := by kernel_rfl
theorem ok290 : TI.check Tryz.prog 290 ti290 = true := by kernel_rfl
theorem ok291 : TI.check Tryz.prog 291 ti291 = true := by kernel_rfl
theorem ok292 : TI.check Tryz.prog 292 ti292 = true := by kernel_rfl
theorem ok293 : TI.check Tryz.prog 293 ti293 = true := by kernel_rfl
theorem ok294 : TI.check Tryz.prog 294 ti294 = true := by kernel_rfl
theorem ok295 : TI.check Tryz.prog 295 ti295 = true := by kernel_rfl
theorem ok296 : TI.check Tryz.prog 296 ti296 = true := by kernel_rfl
theorem ok297 : TI.check Tryz.prog 297 ti297 = true := by kernel_rfl
theorem ok298 : TI.check Tryz.prog 298 ti298 = true := by kernel_rfl
theorem ok299 : TI.check Tryz.prog 299 ti299 = true := by kernel_rfl
theorem ok300 : TI.check Tryz.prog 300 ti300 = true := by kernel_rfl
theorem ok301 : TI.check Tryz.prog 301 ti301 = true := by kernel_rfl
theorem ok302 : TI.check Tryz.prog 302 ti302 = true := by kernel_rfl
theorem ok304 : TI.check Tryz.prog 304 ti304 = true := by kernel_rfl
theorem ok306 : TI.check Tryz.prog 306 ti306 = true := by kernel_rfl
theorem ok307 : TI.check Tryz.prog 307 ti307 = true := by kernel_rfl
theorem ok308 : TI.check Tryz.prog 308 ti308 = true := by kernel_rfl
theorem ok309 : TI.check Tryz.prog 309 ti309 = true := by kernel_rfl
theorem ok310 : TI.check Tryz.prog 310 ti310 = true := by kernel_rfl
theorem ok311 : TI.check Tryz.prog 311 ti311 = true := by kernel_rfl
theorem ok312 : TI.check Tryz.prog 312 ti312 = true := by kernel_rfl
theorem ok313 : TI.check Tryz.prog 313 ti313 = true := by kernel_rfl
theorem ok314 : TI.check Tryz.prog 314 ti314 = true := by kernel_rfl
theorem ok315 : TI.check Tryz.prog 315 ti315 = true := by kernel_rfl
theorem ok316 : TI.check Tryz.prog 316 ti316 = true := by kernel_rfl
theorem ok317 : TI.check Tryz.prog 317 ti317 = true := by kernel_rfl
theorem ok318 : TI.check Tryz.prog 318 ti318 = true := by kernel_rfl
theorem ok319 : TI.check Tryz.prog 319 ti319 = true := by kernel_rfl
theorem ok320 : TI.check Tryz.prog 320 ti320 = true := by kernel_rfl
theorem ok321 : TI.check Tryz.prog 321 ti321 = true := by kernel_rfl
theorem ok322 : TI.check Tryz.prog 322 ti322 = true := by kernel_rfl
theorem ok323 : TI.check Tryz.prog 323 ti323 = true := by kernel_rfl
theorem ok324 : TI.check Tryz.prog 324 ti324 = true := by kernel_rfl
theorem ok325 : TI.check Tryz.prog 325 ti325 = true := by kernel_rfl
theorem ok326 : TI.check Tryz.prog 326 ti326 = true := by kernel_rfl
theorem ok328 : TI.check Tryz.prog 328 ti328 = true := by kernel_rfl
theorem ok329 : TI.check Tryz.prog 329 ti329 = true := by kernel_rfl
theorem ok330 : TI.check Tryz.prog 330 ti330 = true := by kernel_rfl
theorem ok332 : TI.check Tryz.prog 332 ti332 = true := by kernel_rfl
theorem ok333 : TI.check Tryz.prog 333 ti333 = true := by kernel_rfl
theorem ok334 : TI.check Tryz.prog 334 ti334 = true := by kernel_rfl
theorem ok335 : TI.check Tryz.prog 335 ti335 = true := by kernel_rfl
theorem ok336 : TI.check Tryz.prog 336 ti336 = true := by kernel_rfl
theorem ok338 : TI.check Tryz.prog 338 ti338 = true := by kernel_rfl
theorem ok339 : TI.check Tryz.prog 339 ti339 = true := by kernel_rfl
theorem ok340 : TI.check Tryz.prog 340 ti340 = true := by kernel_rfl
theorem ok341 : TI.check Tryz.prog 341 ti341 = true := by kernel_rfl
theorem ok343 : TI.check Tryz.prog 343 ti343 = true := by kernel_rfl
theorem ok344 : TI.check Tryz.prog 344 ti344 = true := by kernel_rfl
theorem ok345 : TI.check Tryz.prog 345 ti345 = true := by kernel_rfl
theorem ok346 : TI.check Tryz.prog 346 ti346 = true := by kernel_rfl
theorem ok347 : TI.check Tryz.prog 347 ti347 = true := by kernel_rfl
theorem ok348 : TI.check Tryz.prog 348 ti348 = true := by kernel_rfl
theorem ok349 : TI.check Tryz.prog 349 ti349 = true := by kernel_rfl
theorem ok350 : TI.check Tryz.prog 350 ti350 = true := by kernel_rfl
theorem ok351 : TI.check Tryz.prog 351 ti351 = true := by kernel_rfl
theorem ok352 : TI.check Tryz.prog 352 ti352 = true := by kernel_rfl
theorem ok353 : TI.check Tryz.prog 353 ti353 = true := by kernel_rfl
theorem ok354 : TI.check Tryz.prog 354 ti354 = true := by kernel_rfl
theorem ok355 : TI.check Tryz.prog 355 ti355 = true := by kernel_rfl
theorem ok356 : TI.check Tryz.prog 356 ti356 = true := by kernel_rfl
theorem ok357 : TI.check Tryz.prog 357 ti357 = true := by kernel_rfl
theorem ok358 : TI.check Tryz.prog 358 ti358 = true := by kernel_rfl
theorem ok359 : TI.check Tryz.prog 359 ti359 = true := by kernel_rfl
theorem ok361 : TI.check Tryz.prog 361 ti361 = true := by kernel_rfl
theorem ok362 : TI.check Tryz.prog 362 ti362 = true := by kernel_rfl
theorem ok363 : TI.check Tryz.prog 363 ti363 = true := by kernel_rfl
theorem ok364 : TI.check Tryz.prog 364 ti364 = true := by kernel_rfl
theorem ok365 : TI.check Tryz.prog 365 ti365 = true := by kernel_rfl
theorem ok367 : TI.check Tryz.prog 367 ti367 = true := by kernel_rfl
theorem ok369 : TI.check Tryz.prog 369 ti369 = true := by kernel_rfl
theorem ok370 : TI.check Tryz.prog 370 ti370 = true := by kernel_rfl
theorem ok371 : TI.check Tryz.prog 371 ti371 = true := by kernel_rfl
theorem ok373 : TI.check Tryz.prog 373 ti373 = true := by kernel_rfl
theorem ok374 : TI.check Tryz.prog 374 ti374 = true := by kernel_rfl
theorem ok375 : TI.check Tryz.prog 375 ti375 = true := by kernel_rfl
theorem ok376 : TI.check Tryz.prog 376 ti376 = true := by kernel_rfl
theorem ok377 : TI.check Tryz.prog 377 ti377 = true := by kernel_rfl
theorem ok378 : TI.check Tryz.prog 378 ti378 = true := by kernel_rfl
theorem ok379 : TI.check Tryz.prog 379 ti379 = true := by kernel_rfl
theorem ok380 : TI.check Tryz.prog 380 ti380 = true := by kernel_rfl
theorem ok381 : TI.check Tryz.prog 381 ti381 = true := by kernel_rfl
theorem ok382 : TI.check Tryz.prog 382 ti382 = true := by kernel_rfl
theorem ok383 : TI.check Tryz.prog 383 ti383 = true := by kernel_rfl
theorem ok384 : TI.check Tryz.prog 384 ti384 = true := by kernel_rfl
theorem ok385 : TI.check Tryz.prog 385 ti385 = true := by kernel_rfl
theorem ok386 : TI.check Tryz.prog 386 ti386 = true := by kernel_rfl
theorem ok387 : TI.check Tryz.prog 387 ti387 = true := by kernel_rfl
theorem ok388 : TI.check Tryz.prog 388 ti388 = true := by kernel_rfl
theorem ok389 : TI.check Tryz.prog 389 ti389 = true := by kernel_rfl
theorem ok390 : TI.check Tryz.prog 390 ti390 = true := by kernel_rfl
theorem ok391 : TI.check Tryz.prog 391 ti391 = true := by kernel_rfl
theorem ok392 : TI.check Tryz.prog 392 ti392 = true := by kernel_rfl
theorem ok393 : TI.check Tryz.prog 393 ti393 = true := by kernel_rfl
theorem ok395 : TI.check Tryz.prog 395 ti395 = true := by kernel_rfl
theorem ok396 : TI.check Tryz.prog 396 ti396 = true := by kernel_rfl
theorem ok397 : TI.check Tryz.prog 397 ti397 = true := by kernel_rfl
theorem ok399 : TI.check Tryz.prog 399 ti399 = true := by kernel_rfl
theorem ok400 : TI.check Tryz.prog 400 ti400 = true := by kernel_rfl
theorem ok401 : TI.check Tryz.prog 401 ti401 = true := by kernel_rfl
theorem ok402 : TI.check Tryz.prog 402 ti402 = true := by kernel_rfl
theorem ok403 : TI.check Tryz.prog 403 ti403 = true := by kernel_rfl
theorem ok404 : TI.check Tryz.prog 404 ti404 = true := by kernel_rfl
theorem ok405 : TI.check Tryz.prog 405 ti405 = true := by kernel_rfl
theorem ok406 : TI.check Tryz.prog 406 ti406 = true := by kernel_rfl
theorem ok407 : TI.check Tryz.prog 407 ti407 = true := by kernel_rfl
theorem ok408 : TI.check Tryz.prog 408 ti408 = true := by kernel_rfl
theorem ok409 : TI.check Tryz.prog 409 ti409 = true := by kernel_rfl
theorem ok410 : TI.check Tryz.prog 410 ti410 = true := by kernel_rfl
theorem ok411 : TI.check Tryz.prog 411 ti411 = true := by kernel_rfl
theorem ok412 : TI.check Tryz.prog 412 ti412 = true := by kernel_rfl
theorem ok413 : TI.check Tryz.prog 413 ti413 = true := by kernel_rfl
theorem ok414 : TI.check Tryz.prog 414 ti414 = true := by kernel_rfl
theorem ok415 : TI.check Tryz.prog 415 ti415 = true := by kernel_rfl
theorem ok416 : TI.check Tryz.prog 416 ti416 = true := by kernel_rfl
theorem ok417 : TI.check Tryz.prog 417 ti417 = true := by kernel_rfl
theorem ok418 : TI.check Tryz.prog 418 ti418 = true := by kernel_rfl
theorem ok419 : TI.check Tryz.prog 419 ti419 = true := by kernel_rfl
theorem ok420 : TI.check Tryz.prog 420 ti420 = true := by kernel_rfl
theorem ok421 : TI.check Tryz.prog 421 ti421 = true := by kernel_rfl
theorem ok422 : TI.check Tryz.prog 422 ti422 = true := by kernel_rfl
theorem ok423 : TI.check Tryz.prog 423 ti423 = true := by kernel_rfl
theorem ok425 : TI.check Tryz.prog 425 ti425 = true := by kernel_rfl
theorem ok428 : TI.check Tryz.prog 428 ti428 = true := by kernel_rfl
theorem ok429 : TI.check Tryz.prog 429 ti429 = true := by kernel_rfl
theorem ok430 : TI.check Tryz.prog 430 ti430 = true := by kernel_rfl
theorem ok431 : TI.check Tryz.prog 431 ti431 = true := by kernel_rfl
theorem ok432 : TI.check Tryz.prog 432 ti432 = true := by kernel_rfl
theorem ok433 : TI.check Tryz.prog 433 ti433 = true := by kernel_rfl
theorem ok434 : TI.check Tryz.prog 434 ti434 = true := by kernel_rfl
theorem ok435 : TI.check Tryz.prog 435 ti435 = true := by kernel_rfl
theorem ok437 : TI.check Tryz.prog 437 ti437 = true := by kernel_rfl
theorem ok438 : TI.check Tryz.prog 438 ti438 = true := by kernel_rfl
theorem ok439 : TI.check Tryz.prog 439 ti439 = true := by kernel_rfl
theorem ok440 : TI.check Tryz.prog 440 ti440 = true := by kernel_rfl
theorem ok442 : TI.check Tryz.prog 442 ti442 = true := by kernel_rfl
theorem ok443 : TI.check Tryz.prog 443 ti443 = true := by kernel_rfl
theorem ok444 : TI.check Tryz.prog 444 ti444 = true := by kernel_rfl
theorem ok445 : TI.check Tryz.prog 445 ti445 = true := by kernel_rfl
theorem ok446 : TI.check Tryz.prog 446 ti446 = true := by kernel_rfl
theorem ok447 : TI.check Tryz.prog 447 ti447 = true := by kernel_rfl
theorem ok448 : TI.check Tryz.prog 448 ti448 = true := by kernel_rfl
theorem ok449 : TI.check Tryz.prog 449 ti449 = true := by kernel_rfl
theorem ok450 : TI.check Tryz.prog 450 ti450 = true := by kernel_rfl
theorem ok451 : TI.check Tryz.prog 451 ti451 = true := by kernel_rfl
theorem ok452 : TI.check Tryz.prog 452 ti452 = true := by kernel_rfl
theorem ok453 : TI.check Tryz.prog 453 ti453 = true := by kernel_rfl
theorem ok454 : TI.check Tryz.prog 454 ti454 = true := by kernel_rfl
theorem ok455 : TI.check Tryz.prog 455 ti455 = true := by kernel_rfl
theorem ok456 : TI.check Tryz.prog 456 ti456 = true := by kernel_rfl
theorem ok457 : TI.check Tryz.prog 457 ti457 = true := by kernel_rfl
theorem ok458 : TI.check Tryz.prog 458 ti458 = true := by kernel_rfl
theorem ok459 : TI.check Tryz.prog 459 ti459 = true := by kernel_rfl
theorem ok460 : TI.check Tryz.prog 460 ti460 = true := by kernel_rfl
theorem ok462 : TI.check Tryz.prog 462 ti462 = true := by kernel_rfl
theorem ok463 : TI.check Tryz.prog 463 ti463 = true := by kernel_rfl
theorem ok464 : TI.check Tryz.prog 464 ti464 = true := by kernel_rfl
theorem ok465 : TI.check Tryz.prog 465 ti465 = true := by kernel_rfl
theorem ok466 : TI.check Tryz.prog 466 ti466 = true := by kernel_rfl
theorem ok467 : TI.check Tryz.prog 467 ti467 = true := by kernel_rfl
theorem ok468 : TI.check Tryz.prog 468 ti468 = true := by kernel_rfl
theorem ok469 : TI.check Tryz.prog 469 ti469 = true := by kernel_rfl
theorem ok470 : TI.check Tryz.prog 470 ti470 = true := by kernel_rfl
theorem ok471 : TI.check Tryz.prog 471 ti471 = true := by kernel_rfl
theorem ok472 : TI.check Tryz.prog 472 ti472 = true := by kernel_rfl
theorem ok473 : TI.check Tryz.prog 473 ti473 = true := by kernel_rfl
theorem ok474 : TI.check Tryz.prog 474 ti474 = true := by kernel_rfl
theorem ok475 : TI.check Tryz.prog 475 ti475 = true := by kernel_rfl
theorem ok476 : TI.check Tryz.prog 476 ti476 = true := by kernel_rfl
theorem ok477 : TI.check Tryz.prog 477 ti477 = true := by kernel_rfl
theorem ok478 : TI.check Tryz.prog 478 ti478 = true := by kernel_rfl
theorem ok479 : TI.check Tryz.prog 479 ti479 = true := by kernel_rfl
theorem ok480 : TI.check Tryz.prog 480 ti480 = true := by kernel_rfl
theorem ok481 : TI.check Tryz.prog 481 ti481 = true := by kernel_rfl
theorem ok482 : TI.check Tryz.prog 482 ti482 = true := by kernel_rfl
theorem ok483 : TI.check Tryz.prog 483 ti483 = true := by kernel_rfl
theorem ok484 : TI.check Tryz.prog 484 ti484 = true := by kernel_rfl
theorem ok485 : TI.check Tryz.prog 485 ti485 = true := by kernel_rfl
theorem ok486 : TI.check Tryz.prog 486 ti486 = true := by kernel_rfl
theorem ok487 : TI.check Tryz.prog 487 ti487 = true := by kernel_rfl
theorem ok488 : TI.check Tryz.prog 488 ti488 = true := by kernel_rfl
theorem ok489 : TI.check Tryz.prog 489 ti489 = true := by kernel_rfl
theorem ok490 : TI.check Tryz.prog 490 ti490 = true := by kernel_rfl
theorem ok491 : TI.check Tryz.prog 491 ti491 = true := by kernel_rfl
theorem ok492 : TI.check Tryz.prog 492 ti492 = true := by kernel_rfl
theorem ok493 : TI.check Tryz.prog 493 ti493 = true := by kernel_rfl
theorem ok494 : TI.check Tryz.prog 494 ti494 = true := by kernel_rfl
theorem ok495 : TI.check Tryz.prog 495 ti495 = true := by kernel_rfl
theorem ok496 : TI.check Tryz.prog 496 ti496 = true := by kernel_rfl
theorem ok497 : TI.check Tryz.prog 497 ti497 = true := by kernel_rfl
theorem ok498 : TI.check Tryz.prog 498 ti498 = true := by kernel_rfl
theorem ok500 : TI.check Tryz.prog 500 ti500 = true := by kernel_rfl
theorem ok503 : TI.check Tryz.prog 503 ti503 = true := by kernel_rfl
theorem ok506 : TI.check Tryz.prog 506 ti506 = true := by kernel_rfl
theorem ok507 : TI.check Tryz.prog 507 ti507 = true := by kernel_rfl
theorem ok508 : TI.check Tryz.prog 508 ti508 = true := by kernel_rfl
theorem ok509 : TI.check Tryz.prog 509 ti509 = true := by kernel_rfl
theorem ok510 : TI.check Tryz.prog 510 ti510 = true := by kernel_rfl
theorem ok513 : TI.check Tryz.prog 513 ti513 = true := by kernel_rfl
theorem ok514 : TI.check Tryz.prog 514 ti514 = true := by kernel_rfl
theorem ok515 : TI.check Tryz.prog 515 ti515 = true := by kernel_rfl
theorem tab_ok : tab.Ok Tryz.prog := ⟨⟨⟨⟨⟨⟨⟨⟨⟨trivial, ok1, trivial⟩, ok2, ⟨trivial, ok3, trivial⟩⟩, ok4, ⟨⟨trivial, ok5, trivial⟩, ok6, ⟨trivial, ok7, trivial⟩⟩⟩, ok8, ⟨⟨⟨trivial, ok9, trivial⟩, ok10, ⟨trivial, ok11, trivial⟩⟩, ok12, ⟨⟨trivial, ok15, trivial⟩, ok16, trivial⟩⟩⟩, ok17, ⟨⟨⟨⟨trivial, ok20, trivial⟩, ok21, ⟨trivial, ok22, trivial⟩⟩, ok23, ⟨⟨trivial, ok24, trivial⟩, ok25, trivial⟩⟩, ok26, ⟨⟨⟨trivial, ok27, trivial⟩, ok29, ⟨trivial, ok30, trivial⟩⟩, ok31, ⟨⟨trivial, ok32, trivial⟩, ok33, trivial⟩⟩⟩⟩, ok34, ⟨⟨⟨⟨⟨trivial, ok35, trivial⟩, ok37, ⟨trivial, ok38, trivial⟩⟩, ok40, ⟨⟨trivial, ok41, trivial⟩, ok42, ⟨trivial, ok43, trivial⟩⟩⟩, ok44, ⟨⟨⟨trivial, ok45, trivial⟩, ok46, ⟨trivial, ok47, trivial⟩⟩, ok48, ⟨⟨trivial, ok49, trivial⟩, ok50, trivial⟩⟩⟩, ok51, ⟨⟨⟨⟨trivial, ok52, trivial⟩, ok53, ⟨trivial, ok54, trivial⟩⟩, ok55, ⟨⟨trivial, ok56, trivial⟩, ok57, trivial⟩⟩, ok58, ⟨⟨⟨trivial, ok59, trivial⟩, ok60, ⟨trivial, ok61, trivial⟩⟩, ok62, ⟨⟨trivial, ok64, trivial⟩, ok66, trivial⟩⟩⟩⟩⟩, ok67, ⟨⟨⟨⟨⟨⟨trivial, ok68, trivial⟩, ok69, ⟨trivial, ok70, trivial⟩⟩, ok71, ⟨⟨trivial, ok72, trivial⟩, ok73, ⟨trivial, ok74, trivial⟩⟩⟩, ok75, ⟨⟨⟨trivial, ok76, trivial⟩, ok77, ⟨trivial, ok78, trivial⟩⟩, ok79, ⟨⟨trivial, ok80, trivial⟩, ok82, trivial⟩⟩⟩, ok83, ⟨⟨⟨⟨trivial, ok84, trivial⟩, ok85, ⟨trivial, ok86, trivial⟩⟩, ok87, ⟨⟨trivial, ok88, trivial⟩, ok89, trivial⟩⟩, ok90, ⟨⟨⟨trivial, ok91, trivial⟩, ok92, ⟨trivial, ok93, trivial⟩⟩, ok95, ⟨⟨trivial, ok96, trivial⟩, ok97, trivial⟩⟩⟩⟩, ok98, ⟨⟨⟨⟨⟨trivial, ok99, trivial⟩, ok100, ⟨trivial, ok102, trivial⟩⟩, ok103, ⟨⟨trivial, ok104, trivial⟩, ok105, ⟨trivial, ok106, trivial⟩⟩⟩, ok107, ⟨⟨⟨trivial, ok108, trivial⟩, ok109, ⟨trivial, ok110, trivial⟩⟩, ok111, ⟨⟨trivial, ok112, trivial⟩, ok114, trivial⟩⟩⟩, ok115, ⟨⟨⟨⟨trivial, ok116, trivial⟩, ok117, ⟨trivial, ok119, trivial⟩⟩, ok120, ⟨⟨trivial, ok121, trivial⟩, ok122, trivial⟩⟩, ok123, ⟨⟨⟨trivial, ok124, trivial⟩, ok125, ⟨trivial, ok126, trivial⟩⟩, ok127, ⟨⟨trivial, ok128, trivial⟩, ok129, trivial⟩⟩⟩⟩⟩⟩, ok130, ⟨⟨⟨⟨⟨⟨⟨trivial, ok131, trivial⟩, ok132, ⟨trivial, ok134, trivial⟩⟩, ok135, ⟨⟨trivial, ok136, trivial⟩, ok137, ⟨trivial, ok138, trivial⟩⟩⟩, ok139, ⟨⟨⟨trivial, ok141, trivial⟩, ok142, ⟨trivial, ok143, trivial⟩⟩, ok144, ⟨⟨trivial, ok145, trivial⟩, ok146, trivial⟩⟩⟩, ok147, ⟨⟨⟨⟨trivial, ok148, trivial⟩, ok149, ⟨trivial, ok150, trivial⟩⟩, ok151, ⟨⟨trivial, ok153, trivial⟩, ok154, trivial⟩⟩, ok155, ⟨⟨⟨trivial, ok156, trivial⟩, ok157, ⟨trivial, ok158, trivial⟩⟩, ok159, ⟨⟨trivial, ok160, trivial⟩, ok161, trivial⟩⟩⟩⟩, ok162, ⟨⟨⟨⟨⟨trivial, ok163, trivial⟩, ok165, ⟨trivial, ok166, trivial⟩⟩, ok167, ⟨⟨trivial, ok168, trivial⟩, ok169, ⟨trivial, ok170, trivial⟩⟩⟩, ok171, ⟨⟨⟨trivial, ok172, trivial⟩, ok173, ⟨trivial, ok174, trivial⟩⟩, ok175, ⟨⟨trivial, ok176, trivial⟩, ok177, trivial⟩⟩⟩, ok178, ⟨⟨⟨⟨trivial, ok179, trivial⟩, ok180, ⟨trivial, ok182, trivial⟩⟩, ok183, ⟨⟨trivial, ok184, trivial⟩, ok185, trivial⟩⟩, ok186, ⟨⟨⟨trivial, ok187, trivial⟩, ok188, ⟨trivial, ok189, trivial⟩⟩, ok190, ⟨⟨trivial, ok191, trivial⟩, ok192, trivial⟩⟩⟩⟩⟩, ok193, ⟨⟨⟨⟨⟨⟨trivial, ok194, trivial⟩, ok195, ⟨trivial, ok196, trivial⟩⟩, ok197, ⟨⟨trivial, ok198, trivial⟩, ok199, ⟨trivial, ok200, trivial⟩⟩⟩, ok201, ⟨⟨⟨trivial, ok202, trivial⟩, ok203, ⟨trivial, ok204, trivial⟩⟩, ok205, ⟨⟨trivial, ok206, trivial⟩, ok207, trivial⟩⟩⟩, ok208, ⟨⟨⟨⟨trivial, ok209, trivial⟩, ok210, ⟨trivial, ok211, trivial⟩⟩, ok212, ⟨⟨trivial, ok213, trivial⟩, ok214, trivial⟩⟩, ok216, ⟨⟨⟨trivial, ok218, trivial⟩, ok219, ⟨trivial, ok220, trivial⟩⟩, ok222, ⟨⟨trivial, ok223, trivial⟩, ok224, trivial⟩⟩⟩⟩, ok225, ⟨⟨⟨⟨⟨trivial, ok226, trivial⟩, ok227, ⟨trivial, ok228, trivial⟩⟩, ok230, ⟨⟨trivial, ok231, trivial⟩, ok232, trivial⟩⟩, ok233, ⟨⟨⟨trivial, ok234, trivial⟩, ok235, ⟨trivial, ok236, trivial⟩⟩, ok237, ⟨⟨trivial, ok238, trivial⟩, ok239, trivial⟩⟩⟩, ok241, ⟨⟨⟨⟨trivial, ok242, trivial⟩, ok243, ⟨trivial, ok245, trivial⟩⟩, ok246, ⟨⟨trivial, ok247, trivial⟩, ok248, trivial⟩⟩, ok249, ⟨⟨⟨trivial, ok250, trivial⟩, ok251, ⟨trivial, ok253, trivial⟩⟩, ok254, ⟨⟨trivial, ok255, trivial⟩, ok256, trivial⟩⟩⟩⟩⟩⟩⟩, ok257, ⟨⟨⟨⟨⟨⟨⟨⟨trivial, ok258, trivial⟩, ok259, ⟨trivial, ok260, trivial⟩⟩, ok261, ⟨⟨trivial, ok262, trivial⟩, ok263, ⟨trivial, ok264, trivial⟩⟩⟩, ok265, ⟨⟨⟨trivial, ok266, trivial⟩, ok267, ⟨trivial, ok268, trivial⟩⟩, ok269, ⟨⟨trivial, ok270, trivial⟩, ok271, trivial⟩⟩⟩, ok272, ⟨⟨⟨⟨trivial, ok276, trivial⟩, ok277, ⟨trivial, ok278, trivial⟩⟩, ok279, ⟨⟨trivial, ok280, trivial⟩, ok281, trivial⟩⟩, ok282, ⟨⟨⟨trivial, ok283, trivial⟩, ok284, ⟨trivial, ok285, trivial⟩⟩, ok286, ⟨⟨trivial, ok287, trivial⟩, ok288, trivial⟩⟩⟩⟩, ok289, ⟨⟨⟨⟨⟨trivial, ok290, trivial⟩, ok291, ⟨trivial, ok292, trivial⟩⟩, ok293, ⟨⟨trivial, ok294, trivial⟩, ok295, ⟨trivial, ok296, trivial⟩⟩⟩, ok297, ⟨⟨⟨trivial, ok298, trivial⟩, ok299, ⟨trivial, ok300, trivial⟩⟩, ok301, ⟨⟨trivial, ok302, trivial⟩, ok304, trivial⟩⟩⟩, ok306, ⟨⟨⟨⟨trivial, ok307, trivial⟩, ok308, ⟨trivial, ok309, trivial⟩⟩, ok310, ⟨⟨trivial, ok311, trivial⟩, ok312, trivial⟩⟩, ok313, ⟨⟨⟨trivial, ok314, trivial⟩, ok315, ⟨trivial, ok316, trivial⟩⟩, ok317, ⟨⟨trivial, ok318, trivial⟩, ok319, trivial⟩⟩⟩⟩⟩, ok320, ⟨⟨⟨⟨⟨⟨trivial, ok321, trivial⟩, ok322, ⟨trivial, ok323, trivial⟩⟩, ok324, ⟨⟨trivial, ok325, trivial⟩, ok326, ⟨trivial, ok328, trivial⟩⟩⟩, ok329, ⟨⟨⟨trivial, ok330, trivial⟩, ok332, ⟨trivial, ok333, trivial⟩⟩, ok334, ⟨⟨trivial, ok335, trivial⟩, ok336, trivial⟩⟩⟩, ok338, ⟨⟨⟨⟨trivial, ok339, trivial⟩, ok340, ⟨trivial, ok341, trivial⟩⟩, ok343, ⟨⟨trivial, ok344, trivial⟩, ok345, trivial⟩⟩, ok346, ⟨⟨⟨trivial, ok347, trivial⟩, ok348, ⟨trivial, ok349, trivial⟩⟩, ok350, ⟨⟨trivial, ok351, trivial⟩, ok352, trivial⟩⟩⟩⟩, ok353, ⟨⟨⟨⟨⟨trivial, ok354, trivial⟩, ok355, ⟨trivial, ok356, trivial⟩⟩, ok357, ⟨⟨trivial, ok358, trivial⟩, ok359, ⟨trivial, ok361, trivial⟩⟩⟩, ok362, ⟨⟨⟨trivial, ok363, trivial⟩, ok364, ⟨trivial, ok365, trivial⟩⟩, ok367, ⟨⟨trivial, ok369, trivial⟩, ok370, trivial⟩⟩⟩, ok371, ⟨⟨⟨⟨trivial, ok373, trivial⟩, ok374, ⟨trivial, ok375, trivial⟩⟩, ok376, ⟨⟨trivial, ok377, trivial⟩, ok378, trivial⟩⟩, ok379, ⟨⟨⟨trivial, ok380, trivial⟩, ok381, ⟨trivial, ok382, trivial⟩⟩, ok383, ⟨⟨trivial, ok384, trivial⟩, ok385, trivial⟩⟩⟩⟩⟩⟩, ok386, ⟨⟨⟨⟨⟨⟨⟨trivial, ok387, trivial⟩, ok388, ⟨trivial, ok389, trivial⟩⟩, ok390, ⟨⟨trivial, ok391, trivial⟩, ok392, ⟨trivial, ok393, trivial⟩⟩⟩, ok395, ⟨⟨⟨trivial, ok396, trivial⟩, ok397, ⟨trivial, ok399, trivial⟩⟩, ok400, ⟨⟨trivial, ok401, trivial⟩, ok402, trivial⟩⟩⟩, ok403, ⟨⟨⟨⟨trivial, ok404, trivial⟩, ok405, ⟨trivial, ok406, trivial⟩⟩, ok407, ⟨⟨trivial, ok408, trivial⟩, ok409, trivial⟩⟩, ok410, ⟨⟨⟨trivial, ok411, trivial⟩, ok412, ⟨trivial, ok413, trivial⟩⟩, ok414, ⟨⟨trivial, ok415, trivial⟩, ok416, trivial⟩⟩⟩⟩, ok417, ⟨⟨⟨⟨⟨trivial, ok418, trivial⟩, ok419, ⟨trivial, ok420, trivial⟩⟩, ok421, ⟨⟨trivial, ok422, trivial⟩, ok423, ⟨trivial, ok425, trivial⟩⟩⟩, ok428, ⟨⟨⟨trivial, ok429, trivial⟩, ok430, ⟨trivial, ok431, trivial⟩⟩, ok432, ⟨⟨trivial, ok433, trivial⟩, ok434, trivial⟩⟩⟩, ok435, ⟨⟨⟨⟨trivial, ok437, trivial⟩, ok438, ⟨trivial, ok439, trivial⟩⟩, ok440, ⟨⟨trivial, ok442, trivial⟩, ok443, trivial⟩⟩, ok444, ⟨⟨⟨trivial, ok445, trivial⟩, ok446, ⟨trivial, ok447, trivial⟩⟩, ok448, ⟨⟨trivial, ok449, trivial⟩, ok450, trivial⟩⟩⟩⟩⟩, ok451, ⟨⟨⟨⟨⟨⟨trivial, ok452, trivial⟩, ok453, ⟨trivial, ok454, trivial⟩⟩, ok455, ⟨⟨trivial, ok456, trivial⟩, ok457, ⟨trivial, ok458, trivial⟩⟩⟩, ok459, ⟨⟨⟨trivial, ok460, trivial⟩, ok462, ⟨trivial, ok463, trivial⟩⟩, ok464, ⟨⟨trivial, ok465, trivial⟩, ok466, trivial⟩⟩⟩, ok467, ⟨⟨⟨⟨trivial, ok468, trivial⟩, ok469, ⟨trivial, ok470, trivial⟩⟩, ok471, ⟨⟨trivial, ok472, trivial⟩, ok473, trivial⟩⟩, ok474, ⟨⟨⟨trivial, ok475, trivial⟩, ok476, ⟨trivial, ok477, trivial⟩⟩, ok478, ⟨⟨trivial, ok479, trivial⟩, ok480, trivial⟩⟩⟩⟩, ok481, ⟨⟨⟨⟨⟨trivial, ok482, trivial⟩, ok483, ⟨trivial, ok484, trivial⟩⟩, ok485, ⟨⟨trivial, ok486, trivial⟩, ok487, trivial⟩⟩, ok488, ⟨⟨⟨trivial, ok489, trivial⟩, ok490, ⟨trivial, ok491, trivial⟩⟩, ok492, ⟨⟨trivial, ok493, trivial⟩, ok494, trivial⟩⟩⟩, ok495, ⟨⟨⟨⟨trivial, ok496, trivial⟩, ok497, ⟨trivial, ok498, trivial⟩⟩, ok500, ⟨⟨trivial, ok503, trivial⟩, ok506, trivial⟩⟩, ok507, ⟨⟨⟨trivial, ok508, trivial⟩, ok509, ⟨trivial, ok510, trivial⟩⟩, ok513, ⟨⟨trivial, ok514, trivial⟩, ok515, trivial⟩⟩⟩⟩⟩⟩⟩⟩
end Go.Proofs.YtehnjdcahbehjaaGreatDoor
