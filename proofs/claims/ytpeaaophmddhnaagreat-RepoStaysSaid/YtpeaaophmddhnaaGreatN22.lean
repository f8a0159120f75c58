/-
  An interpreter over values is sound, part 22.
-/
import Derived.Test.YtpeaaophmddhnaaGreatN21
import Derived.Test.YtpeaaophmddhnaaGreatProg
import Derived.KernelRfl
namespace Go.Proofs.YtpeaaophmddhnaaGreat.LI
open Go Go.RowKit
def qKb : FT Unit := (.node 113 () (.node 50 () (.node 24 () (.node 13 () (.node 7 () (.node 4 () (.node 3 () (.node 2 () .leaf .leaf) .leaf) (.node 6 () (.node 5 () .leaf .leaf) .leaf)) (.node 10 () (.node 9 () (.node 8 () .leaf .leaf) .leaf) (.node 12 () (.node 11 () .leaf .leaf) .leaf))) (.node 19 () (.node 16 () (.node 15 () (.node 14 () .leaf .leaf) .leaf) (.node 18 () (.node 17 () .leaf .leaf) .leaf)) (.node 22 () (.node 21 () (.node 20 () .leaf .leaf) .leaf) (.node 23 () .leaf .leaf)))) (.node 35 () (.node 30 () (.node 27 () (.node 26 () (.node 25 () .leaf .leaf) .leaf) (.node 29 () (.node 28 () .leaf .leaf) .leaf)) (.node 33 () (.node 32 () (.node 31 () .leaf .leaf) .leaf) (.node 34 () .leaf .leaf))) (.node 41 () (.node 38 () (.node 37 () (.node 36 () .leaf .leaf) .leaf) (.node 40 () (.node 39 () .leaf .leaf) .leaf)) (.node 46 () (.node 45 () (.node 42 () .leaf .leaf) .leaf) (.node 49 () .leaf .leaf))))) (.node 83 () (.node 64 () (.node 56 () (.node 53 () (.node 52 () (.node 51 () .leaf .leaf) .leaf) (.node 55 () (.node 54 () .leaf .leaf) .leaf)) (.node 60 () (.node 59 () (.node 58 () .leaf .leaf) .leaf) (.node 63 () (.node 61 () .leaf .leaf) .leaf))) (.node 76 () (.node 69 () (.node 68 () (.node 66 () .leaf .leaf) .leaf) (.node 71 () (.node 70 () .leaf .leaf) .leaf)) (.node 81 () (.node 78 () (.node 77 () .leaf .leaf) .leaf) (.node 82 () .leaf .leaf)))) (.node 97 () (.node 89 () (.node 86 () (.node 85 () (.node 84 () .leaf .leaf) .leaf) (.node 88 () (.node 87 () .leaf .leaf) .leaf)) (.node 92 () (.node 91 () (.node 90 () .leaf .leaf) .leaf) (.node 96 () .leaf .leaf))) (.node 105 () (.node 100 () (.node 99 () (.node 98 () .leaf .leaf) .leaf) (.node 103 () (.node 101 () .leaf .leaf) .leaf)) (.node 111 () (.node 108 () (.node 107 () .leaf .leaf) .leaf) (.node 112 () .leaf .leaf)))))) (.node 182 () (.node 150 () (.node 135 () (.node 129 () (.node 117 () (.node 115 () (.node 114 () .leaf .leaf) .leaf) (.node 128 () (.node 127 () .leaf .leaf) .leaf)) (.node 132 () (.node 131 () (.node 130 () .leaf .leaf) .leaf) (.node 134 () (.node 133 () .leaf .leaf) .leaf))) (.node 141 () (.node 138 () (.node 137 () (.node 136 () .leaf .leaf) .leaf) (.node 140 () (.node 139 () .leaf .leaf) .leaf)) (.node 147 () (.node 146 () (.node 145 () .leaf .leaf) .leaf) (.node 149 () .leaf .leaf)))) (.node 163 () (.node 158 () (.node 155 () (.node 153 () (.node 151 () .leaf .leaf) .leaf) (.node 157 () (.node 156 () .leaf .leaf) .leaf)) (.node 161 () (.node 160 () (.node 159 () .leaf .leaf) .leaf) (.node 162 () .leaf .leaf))) (.node 170 () (.node 167 () (.node 165 () (.node 164 () .leaf .leaf) .leaf) (.node 169 () (.node 168 () .leaf .leaf) .leaf)) (.node 176 () (.node 172 () (.node 171 () .leaf .leaf) .leaf) (.node 179 () .leaf .leaf))))) (.node 215 () (.node 197 () (.node 188 () (.node 185 () (.node 184 () (.node 183 () .leaf .leaf) .leaf) (.node 187 () (.node 186 () .leaf .leaf) .leaf)) (.node 191 () (.node 190 () (.node 189 () .leaf .leaf) .leaf) (.node 196 () (.node 192 () .leaf .leaf) .leaf))) (.node 206 () (.node 200 () (.node 199 () (.node 198 () .leaf .leaf) .leaf) (.node 205 () (.node 202 () .leaf .leaf) .leaf)) (.node 210 () (.node 208 () (.node 207 () .leaf .leaf) .leaf) (.node 214 () .leaf .leaf)))) (.node 236 () (.node 227 () (.node 220 () (.node 218 () (.node 216 () .leaf .leaf) .leaf) (.node 224 () (.node 223 () .leaf .leaf) .leaf)) (.node 231 () (.node 230 () (.node 228 () .leaf .leaf) .leaf) (.node 233 () .leaf .leaf))) (.node 245 () (.node 240 () (.node 239 () (.node 237 () .leaf .leaf) .leaf) (.node 243 () (.node 242 () .leaf .leaf) .leaf)) (.node 248 () (.node 247 () (.node 246 () .leaf .leaf) .leaf) (.node 249 () .leaf .leaf)))))))
def qRb : FT Unit := (.node 126 () (.node 63 () (.node 32 () (.node 17 () (.node 9 () (.node 5 () (.node 3 () (.node 2 () .leaf .leaf) (.node 4 () .leaf .leaf)) (.node 7 () (.node 6 () .leaf .leaf) (.node 8 () .leaf .leaf))) (.node 13 () (.node 11 () (.node 10 () .leaf .leaf) (.node 12 () .leaf .leaf)) (.node 15 () (.node 14 () .leaf .leaf) (.node 16 () .leaf .leaf)))) (.node 25 () (.node 21 () (.node 19 () (.node 18 () .leaf .leaf) (.node 20 () .leaf .leaf)) (.node 23 () (.node 22 () .leaf .leaf) (.node 24 () .leaf .leaf))) (.node 29 () (.node 27 () (.node 26 () .leaf .leaf) (.node 28 () .leaf .leaf)) (.node 31 () (.node 30 () .leaf .leaf) .leaf)))) (.node 48 () (.node 40 () (.node 36 () (.node 34 () (.node 33 () .leaf .leaf) (.node 35 () .leaf .leaf)) (.node 38 () (.node 37 () .leaf .leaf) (.node 39 () .leaf .leaf))) (.node 44 () (.node 42 () (.node 41 () .leaf .leaf) (.node 43 () .leaf .leaf)) (.node 46 () (.node 45 () .leaf .leaf) (.node 47 () .leaf .leaf)))) (.node 56 () (.node 52 () (.node 50 () (.node 49 () .leaf .leaf) (.node 51 () .leaf .leaf)) (.node 54 () (.node 53 () .leaf .leaf) (.node 55 () .leaf .leaf))) (.node 60 () (.node 58 () (.node 57 () .leaf .leaf) (.node 59 () .leaf .leaf)) (.node 62 () (.node 61 () .leaf .leaf) .leaf))))) (.node 94 () (.node 79 () (.node 71 () (.node 67 () (.node 65 () (.node 64 () .leaf .leaf) (.node 66 () .leaf .leaf)) (.node 69 () (.node 68 () .leaf .leaf) (.node 70 () .leaf .leaf))) (.node 75 () (.node 73 () (.node 72 () .leaf .leaf) (.node 74 () .leaf .leaf)) (.node 77 () (.node 76 () .leaf .leaf) (.node 78 () .leaf .leaf)))) (.node 87 () (.node 83 () (.node 81 () (.node 80 () .leaf .leaf) (.node 82 () .leaf .leaf)) (.node 85 () (.node 84 () .leaf .leaf) (.node 86 () .leaf .leaf))) (.node 91 () (.node 89 () (.node 88 () .leaf .leaf) (.node 90 () .leaf .leaf)) (.node 93 () (.node 92 () .leaf .leaf) .leaf)))) (.node 110 () (.node 102 () (.node 98 () (.node 96 () (.node 95 () .leaf .leaf) (.node 97 () .leaf .leaf)) (.node 100 () (.node 99 () .leaf .leaf) (.node 101 () .leaf .leaf))) (.node 106 () (.node 104 () (.node 103 () .leaf .leaf) (.node 105 () .leaf .leaf)) (.node 108 () (.node 107 () .leaf .leaf) (.node 109 () .leaf .leaf)))) (.node 118 () (.node 114 () (.node 112 () (.node 111 () .leaf .leaf) (.node 113 () .leaf .leaf)) (.node 116 () (.node 115 () .leaf .leaf) (.node 117 () .leaf .leaf))) (.node 123 () (.node 120 () (.node 119 () .leaf .leaf) (.node 122 () .leaf .leaf)) (.node 125 () (.node 124 () .leaf .leaf) .leaf)))))) (.node 188 () (.node 157 () (.node 142 () (.node 134 () (.node 130 () (.node 128 () (.node 127 () .leaf .leaf) (.node 129 () .leaf .leaf)) (.node 132 () (.node 131 () .leaf .leaf) (.node 133 () .leaf .leaf))) (.node 138 () (.node 136 () (.node 135 () .leaf .leaf) (.node 137 () .leaf .leaf)) (.node 140 () (.node 139 () .leaf .leaf) (.node 141 () .leaf .leaf)))) (.node 150 () (.node 146 () (.node 144 () (.node 143 () .leaf .leaf) (.node 145 () .leaf .leaf)) (.node 148 () (.node 147 () .leaf .leaf) (.node 149 () .leaf .leaf))) (.node 154 () (.node 152 () (.node 151 () .leaf .leaf) (.node 153 () .leaf .leaf)) (.node 156 () (.node 155 () .leaf .leaf) .leaf)))) (.node 173 () (.node 165 () (.node 161 () (.node 159 () (.node 158 () .leaf .leaf) (.node 160 () .leaf .leaf)) (.node 163 () (.node 162 () .leaf .leaf) (.node 164 () .leaf .leaf))) (.node 169 () (.node 167 () (.node 166 () .leaf .leaf) (.node 168 () .leaf .leaf)) (.node 171 () (.node 170 () .leaf .leaf) (.node 172 () .leaf .leaf)))) (.node 181 () (.node 177 () (.node 175 () (.node 174 () .leaf .leaf) (.node 176 () .leaf .leaf)) (.node 179 () (.node 178 () .leaf .leaf) (.node 180 () .leaf .leaf))) (.node 185 () (.node 183 () (.node 182 () .leaf .leaf) (.node 184 () .leaf .leaf)) (.node 187 () (.node 186 () .leaf .leaf) .leaf))))) (.node 219 () (.node 204 () (.node 196 () (.node 192 () (.node 190 () (.node 189 () .leaf .leaf) (.node 191 () .leaf .leaf)) (.node 194 () (.node 193 () .leaf .leaf) (.node 195 () .leaf .leaf))) (.node 200 () (.node 198 () (.node 197 () .leaf .leaf) (.node 199 () .leaf .leaf)) (.node 202 () (.node 201 () .leaf .leaf) (.node 203 () .leaf .leaf)))) (.node 212 () (.node 208 () (.node 206 () (.node 205 () .leaf .leaf) (.node 207 () .leaf .leaf)) (.node 210 () (.node 209 () .leaf .leaf) (.node 211 () .leaf .leaf))) (.node 216 () (.node 214 () (.node 213 () .leaf .leaf) (.node 215 () .leaf .leaf)) (.node 218 () (.node 217 () .leaf .leaf) .leaf)))) (.node 235 () (.node 228 () (.node 224 () (.node 222 () (.node 220 () .leaf .leaf) (.node 223 () .leaf .leaf)) (.node 226 () (.node 225 () .leaf .leaf) (.node 227 () .leaf .leaf))) (.node 232 () (.node 230 () (.node 229 () .leaf .leaf) (.node 231 () .leaf .leaf)) (.node 234 () (.node 233 () .leaf .leaf) .leaf))) (.node 243 () (.node 239 () (.node 237 () (.node 236 () .leaf .leaf) (.node 238 () .leaf .leaf)) (.node 241 () (.node 240 () .leaf .leaf) (.node 242 () .leaf .leaf))) (.node 247 () (.node 245 () (.node 244 () .leaf .leaf) (.node 246 () .leaf .leaf)) (.node 249 () (.node 248 () .leaf .leaf) .leaf)))))))
def tyT : FT Ty := (.node 77 (.list (.pair (.pair (.int .i64) (.pair (.int .i64) .unit)) (.pair (.int .i64) (.pair (.int .i64) .unit)))) (.node 30 (.pair (.int .i64) (.pair (.int .i64) .unit)) (.node 10 .str (.node 6 .byte (.node 4 .bool (.node 3 (.int .i64) (.node 2 (.int .i64) .leaf .leaf) .leaf) (.node 5 .byte .leaf .leaf)) (.node 8 (.pair (.int .i64) (.pair (.int .i64) (.pair .bool (.pair .byte .unit)))) (.node 7 (.pair (.int .i64) (.pair (.int .i64) (.pair .bool (.pair .byte .unit)))) .leaf .leaf) (.node 9 .str .leaf .leaf))) (.node 21 (.int .i32) (.node 13 (.pair .str (.pair (.int .u64) .unit)) (.node 12 (.int .u64) (.node 11 .str .leaf .leaf) .leaf) (.node 14 (.pair .str (.pair (.int .u64) .unit)) .leaf .leaf)) (.node 25 (.list (.pair .str (.pair (.list (.pair (.pair (.int .i64) (.pair (.int .i64) .unit)) (.pair (.int .i64) (.pair (.int .i64) .unit)))) .unit))) (.node 22 (.list (.pair (.pair (.int .i64) (.pair (.int .i64) .unit)) (.pair (.list (.pair (.int .i64) (.pair (.int .i64) .unit))) (.pair .str (.pair (.list (.pair (.int .i64) (.pair .str (.pair .str (.pair (.pair (.int .i64) (.pair (.list .str) (.pair (.list .str) .unit))) .unit))))) .unit))))) .leaf .leaf) (.node 26 (.int .i64) .leaf .leaf)))) (.node 45 (.list (.pair .str (.pair (.list .str) .unit))) (.node 38 (.list (.pair (.int .i64) (.pair .str (.pair .str (.pair (.pair (.int .i64) (.pair (.list .str) (.pair (.list .str) .unit))) .unit))))) (.node 33 (.pair (.pair (.int .i64) (.pair (.int .i64) .unit)) (.pair (.int .i64) (.pair (.int .i64) .unit))) (.node 32 (.pair (.pair (.int .i64) (.pair (.int .i64) .unit)) (.pair (.int .i64) (.pair (.int .i64) .unit))) (.node 31 (.pair (.int .i64) (.pair (.int .i64) .unit)) .leaf .leaf) .leaf) (.node 37 (.list (.pair (.int .i64) (.pair (.int .i64) .unit))) .leaf .leaf)) (.node 40 (.pair (.pair (.int .i64) (.pair (.int .i64) .unit)) (.pair (.list (.pair (.int .i64) (.pair (.int .i64) .unit))) (.pair .str (.pair (.list (.pair (.int .i64) (.pair .str (.pair .str (.pair (.pair (.int .i64) (.pair (.list .str) (.pair (.list .str) .unit))) .unit))))) .unit)))) (.node 39 (.pair (.pair (.int .i64) (.pair (.int .i64) .unit)) (.pair (.list (.pair (.int .i64) (.pair (.int .i64) .unit))) (.pair .str (.pair (.list (.pair (.int .i64) (.pair .str (.pair .str (.pair (.pair (.int .i64) (.pair (.list .str) (.pair (.list .str) .unit))) .unit))))) .unit)))) .leaf .leaf) (.node 44 (.list (.pair .str (.pair (.list .str) .unit))) .leaf .leaf))) (.node 69 (.pair (.int .i64) (.pair (.list .str) (.pair (.list .str) .unit))) (.node 47 (.pair (.int .i64) (.pair (.list (.pair (.pair (.int .i64) (.pair (.int .i64) .unit)) (.pair (.list (.pair (.int .i64) (.pair (.int .i64) .unit))) (.pair .str (.pair (.list (.pair (.int .i64) (.pair .str (.pair .str (.pair (.pair (.int .i64) (.pair (.list .str) (.pair (.list .str) .unit))) .unit))))) .unit))))) (.pair (.list (.pair .str (.pair (.list .str) .unit))) (.pair (.list (.pair .str (.pair (.list .str) .unit))) (.pair (.int .i64) .unit))))) (.node 46 (.pair (.int .i64) (.pair (.list (.pair (.pair (.int .i64) (.pair (.int .i64) .unit)) (.pair (.list (.pair (.int .i64) (.pair (.int .i64) .unit))) (.pair .str (.pair (.list (.pair (.int .i64) (.pair .str (.pair .str (.pair (.pair (.int .i64) (.pair (.list .str) (.pair (.list .str) .unit))) .unit))))) .unit))))) (.pair (.list (.pair .str (.pair (.list .str) .unit))) (.pair (.list (.pair .str (.pair (.list .str) .unit))) (.pair (.int .i64) .unit))))) .leaf .leaf) (.node 56 (.list .str) .leaf .leaf)) (.node 71 (.pair (.int .i64) (.pair .str (.pair .str (.pair (.pair (.int .i64) (.pair (.list .str) (.pair (.list .str) .unit))) .unit)))) (.node 70 (.pair (.int .i64) (.pair (.list .str) (.pair (.list .str) .unit))) .leaf .leaf) (.node 72 (.pair (.int .i64) (.pair .str (.pair .str (.pair (.pair (.int .i64) (.pair (.list .str) (.pair (.list .str) .unit))) .unit)))) .leaf .leaf))))) (.node 216 (.list (.list (.pair .str (.pair (.list .str) .unit)))) (.node 168 (.pair (.list (.pair (.pair (.int .i64) (.pair (.int .i64) .unit)) (.pair (.list (.pair (.int .i64) (.pair (.int .i64) .unit))) (.pair .str (.pair (.list (.pair (.int .i64) (.pair .str (.pair .str (.pair (.pair (.int .i64) (.pair (.list .str) (.pair (.list .str) .unit))) .unit))))) .unit))))) (.pair (.list (.pair (.pair (.int .i64) (.pair (.int .i64) .unit)) (.pair (.list (.pair (.int .i64) (.pair (.int .i64) .unit))) (.pair .str (.pair (.list (.pair (.int .i64) (.pair .str (.pair .str (.pair (.pair (.int .i64) (.pair (.list .str) (.pair (.list .str) .unit))) .unit))))) .unit))))) .unit)) (.node 98 (.pair .str (.pair (.list .str) .unit)) (.node 95 (.pair (.pair (.int .i64) (.pair (.int .i64) .unit)) (.pair (.list (.pair (.int .i64) (.pair (.int .i64) .unit))) (.pair .str (.pair (.list (.pair (.int .i64) (.pair .str (.pair .str (.pair (.pair (.int .i64) (.pair (.list .str) (.pair (.list .str) .unit))) .unit))))) .unit)))) (.node 85 (.pair .str (.pair (.list (.pair (.pair (.int .i64) (.pair (.int .i64) .unit)) (.pair (.int .i64) (.pair (.int .i64) .unit)))) .unit)) (.node 84 (.pair .str (.pair (.list (.pair (.pair (.int .i64) (.pair (.int .i64) .unit)) (.pair (.int .i64) (.pair (.int .i64) .unit)))) .unit)) .leaf .leaf) .leaf) (.node 97 (.pair .str (.pair (.list .str) .unit)) .leaf .leaf)) (.node 152 (.pair (.list (.pair (.int .i64) (.pair .str (.pair .str (.pair (.pair (.int .i64) (.pair (.list .str) (.pair (.list .str) .unit))) .unit))))) .unit) (.node 151 (.pair (.list (.pair (.int .i64) (.pair .str (.pair .str (.pair (.pair (.int .i64) (.pair (.list .str) (.pair (.list .str) .unit))) .unit))))) .unit) .leaf .leaf) (.node 162 (.pair (.int .i64) (.pair .str (.pair .str (.pair (.pair (.int .i64) (.pair (.list .str) (.pair (.list .str) .unit))) .unit)))) .leaf .leaf))) (.node 193 (.list (.pair (.int .i64) (.pair (.list .str) (.pair (.list .str) .unit)))) (.node 177 (.list (.list (.pair (.pair (.int .i64) (.pair (.int .i64) .unit)) (.pair (.int .i64) (.pair (.int .i64) .unit))))) (.node 169 (.pair (.list (.pair (.pair (.int .i64) (.pair (.int .i64) .unit)) (.pair (.list (.pair (.int .i64) (.pair (.int .i64) .unit))) (.pair .str (.pair (.list (.pair (.int .i64) (.pair .str (.pair .str (.pair (.pair (.int .i64) (.pair (.list .str) (.pair (.list .str) .unit))) .unit))))) .unit))))) (.pair (.list (.pair (.pair (.int .i64) (.pair (.int .i64) .unit)) (.pair (.list (.pair (.int .i64) (.pair (.int .i64) .unit))) (.pair .str (.pair (.list (.pair (.int .i64) (.pair .str (.pair .str (.pair (.pair (.int .i64) (.pair (.list .str) (.pair (.list .str) .unit))) .unit))))) .unit))))) .unit)) .leaf .leaf) (.node 182 (.int .u64) .leaf .leaf)) (.node 207 (.int .u32) (.node 198 (.int .i64) .leaf .leaf) (.node 209 (.int .u64) .leaf .leaf)))) (.node 263 (.list (.list (.int .i64))) (.node 225 (.pair (.int .i64) (.pair (.int .i64) (.pair (.list .str) .unit))) (.node 222 (.list (.pair (.int .i64) (.pair (.int .i64) (.pair (.list .str) .unit)))) (.node 221 (.pair (.list .str) (.pair (.int .i64) .unit)) (.node 220 (.pair (.list .str) (.pair (.int .i64) .unit)) .leaf .leaf) .leaf) (.node 224 (.pair (.int .i64) (.pair (.int .i64) (.pair (.list .str) .unit))) .leaf .leaf)) (.node 246 (.list (.pair (.int .i64) (.pair (.int .i64) .unit))) (.node 231 (.int .u64) .leaf .leaf) (.node 248 (.pair (.int .i64) (.pair (.int .i64) .unit)) .leaf .leaf))) (.node 280 .byte (.node 267 (.list .str) (.node 265 (.list (.int .i64)) .leaf .leaf) (.node 269 (.list (.list .str)) .leaf .leaf)) (.node 284 (.int .i32) (.node 281 .byte .leaf .leaf) (.node 285 (.int .i32) .leaf .leaf))))))
def rAb : FT (List Nat) := (.node 94 [10] (.node 33 [] (.node 21 [] (.node 9 [] (.node 7 [] (.node 6 [] (.node 5 [] .leaf .leaf) .leaf) (.node 8 [] .leaf .leaf)) (.node 19 [] (.node 18 [] (.node 12 [11] .leaf .leaf) .leaf) (.node 20 [] .leaf .leaf))) (.node 28 [10, 33] (.node 24 [] (.node 23 [] (.node 22 [] .leaf .leaf) .leaf) (.node 26 [58] .leaf .leaf)) (.node 31 [] (.node 30 [63] .leaf .leaf) (.node 32 [] .leaf .leaf)))) (.node 67 [] (.node 43 [5, 7] (.node 37 [] (.node 36 [] (.node 34 [] .leaf .leaf) .leaf) (.node 42 [7] .leaf .leaf)) (.node 57 [6] (.node 53 [] (.node 50 [7, 15] .leaf .leaf) .leaf) (.node 61 [19] .leaf .leaf))) (.node 87 [9] (.node 81 [11, 27] (.node 72 [12, 34, 43, 50, 53, 60, 66, 73, 76, 80, 86, 91, 93] (.node 70 [2, 3] .leaf .leaf) .leaf) (.node 84 [6, 7, 32] .leaf .leaf)) (.node 92 [24] (.node 91 [3] .leaf .leaf) (.node 93 [2, 4] .leaf .leaf))))) (.node 166 [6, 7, 10, 11, 13] (.node 126 [15] (.node 101 [3] (.node 99 [5] (.node 98 [7] (.node 97 [3] .leaf .leaf) .leaf) (.node 100 [7] .leaf .leaf)) (.node 117 [6, 34] (.node 113 [8, 20] (.node 102 [2] .leaf .leaf) .leaf) (.node 122 [9] .leaf .leaf))) (.node 144 [27, 33, 39, 54, 72, 92, 99, 121, 132] (.node 142 [4, 20, 25] (.node 139 [8] (.node 127 [3] .leaf .leaf) .leaf) (.node 143 [2, 4] .leaf .leaf)) (.node 155 [24] (.node 154 [13, 22, 25, 31] .leaf .leaf) (.node 156 [6] .leaf .leaf)))) (.node 203 [1] (.node 185 [6] (.node 174 [26, 55] (.node 171 [6] (.node 167 [5, 8, 41] .leaf .leaf) .leaf) (.node 184 [10] .leaf .leaf)) (.node 196 [3, 5] (.node 194 [4, 20, 25] (.node 189 [5] .leaf .leaf) .leaf) (.node 202 [3] .leaf .leaf))) (.node 228 [4, 6] (.node 223 [5] (.node 208 [6, 12, 60] (.node 207 [7] .leaf .leaf) .leaf) (.node 225 [1] .leaf .leaf)) (.node 237 [24] (.node 235 [2, 3] .leaf .leaf) (.node 244 [4, 20, 25] .leaf .leaf))))))
def qZb : FT (List Nat) := (.node 137 [6] (.node 84 [32] (.node 57 [6] .leaf .leaf) (.node 126 [15] .leaf .leaf)) (.node 242 [6] (.node 171 [9] .leaf .leaf) .leaf))
def qDb : List FuncId := [57]
def qNb : List (Nat × Nat) := [(190, 4)]
def gcL : List FuncId := [81, 84]
def qCb (f : FuncId) (r : Nat) : Option Nat :=
 if f = 81 ∧ r = 7 then some 4 else
 if f = 84 ∧ r = 5 then some 4 else
 none
def jVb (f : FuncId) : List (Option (TypeId × Nat)) :=
 if f = 70 then [some (98, 2)] else
 if f = 81 then [some (40, 5), none] else
 if f = 93 then [some (9, 1)] else
 if f = 101 then [some (72, 6)] else
 if f = 133 then [none, some (40, 5), none] else
 if f = 142 then [some (33, 4)] else
 if f = 143 then [some (9, 1)] else
 if f = 167 then [none, some (40, 5), none] else
 if f = 194 then [some (98, 2)] else
 if f = 228 then [some (248, 2)] else
 if f = 244 then [some (9, 1)] else
 []
def mDb (f : Nat) (k : Option Nat) : List Bool :=
 if f = 11 ∧ k = some 4 then [true, false, false, false, true, true] else
 if f = 12 ∧ k = some 6 then [false, false, true, true, false, false, true, false, false, false, false, false, false, false, false, false, false, false, false, false, false, false, false, true, true, true] else
 if f = 12 ∧ k = some 9 then [false, false, true, true, false, false, true, false, true, false, false, false, false, false, false, false, false, false, false, false, false, false, false, true, true, true, false, false, false, false, true, true, true] else
 if f = 12 ∧ k = some 24 then [false, false, true, true, false, false, true, false, false, false, false, true, false, false, false, false, false, false, false, false, false, false, false, false, false, false, false, false, false, false, false, false, false, false, false, false, false, false, false, false, false, false, false, false, false, false, false, false, false, false, false, false, false, false, false, false, false, false, false, false, false, false, false, false, false, false, false, false, false, false, false, false, false, false, false, false, false, false, false, false, false, false, false, false, false, true, true, true] else
 if f = 13 ∧ k = some 6 then [true, false, true, true, false, false, true, true] else
 if f = 13 ∧ k = some 9 then [true, false, true, true, false, false, true, true, true] else
 if f = 14 ∧ k = some 4 then [true, true, false, false, true, true] else
 if f = 14 ∧ k = some 9 then [true, true, false, false, true, true, true] else
 if f = 20 ∧ k = some 4 then [false, true, true, false, false, false, false, false, false, false, false, false, false, false, false, false, false, false, false, false, false, false, false, false, false, false, false, false, false, false, false, false, true, true, true] else
 if f = 32 ∧ k = some 15 then [false, false, true, true, false, false, true, true, true, false, false, true, false, true] else
 if f = 35 ∧ k = some 4 then [true, true, false, false, true, true] else
 if f = 37 ∧ k = some 4 then [false, true, true, true] else
 if f = 38 ∧ k = some 5 then [true, false, true, false, true] else
 if f = 42 ∧ k = some 3 then [false, true, false, true, false, false, true, true, false, false, false, false, true, true] else
 if f = 47 ∧ k = some 2 then [true, true, false, false, true, false, false, true, true] else
 if f = 49 ∧ k = some 2 then [true, true, false, false, true, true] else
 if f = 50 ∧ k = some 4 then [false, false, false, false, true, true, true, true, true, false, false, false, false, false, false, false, false, true, true, true, false, false, false, false, false, false, false, false, true, true] else
 if f = 50 ∧ k = some 8 then [false, false, false, false, true, true, true, true, true, false, true, true, false, false, false, false, false, true, true, true, false, false, false, false, false, false, false, false, true, true] else
 if f = 56 ∧ k = some 2 then [true, false, true, false, false, true, true, true] else
 if f = 59 ∧ k = some 4 then [true, true, false, false, true, true] else
 if f = 60 ∧ k = some 4 then [true, true, false, false, true, true] else
 if f = 61 ∧ k = some 6 then [true, true, false, false, true, true, true, true, false, false, false, false, false, false, false, false, false, false, false, false, false, false, false, false, true, true, true] else
 if f = 62 ∧ k = some 4 then [false, true, true, false, false, false, true, false, false, false, false, false, false, false, false, true, true, true] else
 if f = 64 ∧ k = some 4 then [true, true, false, false, true, false, false, false, false, false, false, false, true, true] else
 if f = 70 ∧ k = some 3 then [false, false, true, true, false, false, true, true, true] else
 if f = 81 ∧ k = some 4 then [false, true, false, false, true, true, true, true, false, false, false, false, false, false, false, true, true, true] else
 if f = 82 ∧ k = some 5 then [false, true, true, true, true, true, true] else
 if f = 83 ∧ k = some 2 then [true, false, false, true, true, true] else
 if f = 84 ∧ k = some 4 then [true, true, false, false, true, true, true, true, true] else
 if f = 85 ∧ k = some 2 then [true, false, true, true] else
 if f = 87 ∧ k = some 8 then [true, true, false, false, true, true, false, false, true, true, true] else
 if f = 88 ∧ k = some 4 then [true, false, true, true] else
 if f = 89 ∧ k = some 4 then [true, false, false, false, true, true] else
 if f = 90 ∧ k = some 2 then [true, false, false, false, true, true, false, false, false, false, true, true, true] else
 if f = 91 ∧ k = some 3 then [false, false, true, true, false, false, true, true, true] else
 if f = 92 ∧ k = some 3 then [true, false, true, true, false, false, false, false, false, true, true, true] else
 if f = 92 ∧ k = some 11 then [false, false, true, false, false, false, true, false, false, false, false, false, false, false, false, false, false, false, false, false, false, false, false, false, false, true, true, true] else
 if f = 95 ∧ k = some 1 then [true, false, false, false, false, true] else
 if f = 96 ∧ k = some 2 then [true, true, false, false, true, true, true] else
 if f = 97 ∧ k = some 3 then [true, false, true, true, true] else
 if f = 98 ∧ k = some 4 then [true, true, true, false, false, false, true, true, true, true] else
 if f = 99 ∧ k = some 3 then [true, true, false, false, true, true, true] else
 if f = 100 ∧ k = some 3 then [false, true, true, true, false, false, true, true, true] else
 if f = 101 ∧ k = some 3 then [false, false, true, true, false, false, true, true, true] else
 if f = 103 ∧ k = some 2 then [true, false, false, true, true, false, false, true, true] else
 if f = 106 ∧ k = some 2 then [true, true, false, false, true, false, false, true, true] else
 if f = 109 ∧ k = some 2 then [true, true, false, false, true, false, false, true, true] else
 if f = 111 ∧ k = some 2 then [true, false, true, false, false, true, true] else
 if f = 114 ∧ k = some 5 then [false, false, true, true, true, false, true] else
 if f = 115 ∧ k = some 4 then [true, true, false, false, true, true] else
 if f = 117 ∧ k = some 4 then [false, false, false, false, true, true, true, false, false, false, false, false, false, true, true, true] else
 if f = 118 ∧ k = some 5 then [true, true, false, false, false, false, false, false, false, false, false, true, false, false, false, false, false, false, false, false, false, false, false, false, false, false, false, false, false, false, false, false, false, false, true, true, true] else
 if f = 123 ∧ k = some 2 then [true, true, false, false, true, false, false, true, true] else
 if f = 124 ∧ k = some 2 then [true, true, false, false, true, false, false, true, true] else
 if f = 125 ∧ k = some 2 then [true, true, false, false, true, false, false, true, true] else
 if f = 127 ∧ k = some 3 then [false, false, true, true, false, false, false, false, false, true, true, true] else
 if f = 129 ∧ k = some 2 then [true, false, true, true] else
 if f = 130 ∧ k = some 2 then [true, false, true, true] else
 if f = 132 ∧ k = some 2 then [true, false, false, true, true, true] else
 if f = 133 ∧ k = some 3 then [false, false, false, true, true, true, true, true, true] else
 if f = 134 ∧ k = some 2 then [true, false, true, true] else
 if f = 135 ∧ k = some 2 then [true, false, true, true] else
 if f = 137 ∧ k = some 4 then [false, false, false, false, true, true, true, true] else
 if f = 137 ∧ k = some 9 then [false, false, false, false, true, true, true, true, true, true, true] else
 if f = 139 ∧ k = some 4 then [true, false, false, false, false, false, true, true, true, true] else
 if f = 140 ∧ k = some 4 then [true, false, false, false, true, true] else
 if f = 143 ∧ k = some 2 then [false, false, true, false, true, false, false, true] else
 if f = 144 ∧ k = some 2 then [true, true, true, true, false, false, false, false, true, true] else
 if f = 148 ∧ k = some 1 then [true, true, true, false, true] else
 if f = 155 ∧ k = some 3 then [true, false, true, true, false, false, false, false, false, true, true, true] else
 if f = 155 ∧ k = some 11 then [false, false, true, false, false, false, true, false, false, false, false, false, false, false, false, false, false, false, false, false, false, false, false, false, false, true, true, true] else
 if f = 156 ∧ k = some 4 then [false, false, false, false, true, true, true, false, false, false, false, false, false, false, false, true, true, true] else
 if f = 167 ∧ k = some 5 then [false, false, false, true, true, true, true, false, true, false, false, false, false, false, false, false, false, false, false, false, false, false, false, false, true] else
 if f = 169 ∧ k = some 3 then [false, false, true, true, true, true, true, true, true] else
 if f = 170 ∧ k = some 2 then [true, true, false, false, true, true] else
 if f = 171 ∧ k = some 5 then [true, false, false, false, true, true, true, true, true] else
 if f = 173 ∧ k = some 1 then [true, true, true, false, false, false, true] else
 if f = 173 ∧ k = some 4 then [true, true, true, false, false, false, true, true] else
 if f = 174 ∧ k = some 4 then [true, false, false, false, false, false, true, true, true, true] else
 if f = 174 ∧ k = some 8 then [true, false, false, false, false, false, true, true, false, false, true] else
 if f = 175 ∧ k = some 5 then [true, true, false, false, false, false, true, true, true, true] else
 if f = 177 ∧ k = some 2 then [true, false, false, false, false, false, true, true] else
 if f = 178 ∧ k = some 3 then [true, true, true, false, false, false, true, true, true] else
 if f = 178 ∧ k = some 5 then [true, true, true, false, false, false, true, true, true] else
 if f = 178 ∧ k = some 14 then [true, true, true, false, false, false, true, true, true, true] else
 if f = 178 ∧ k = some 20 then [true, true, true, false, false, false, true, true, true, false, true] else
 if f = 180 ∧ k = some 3 then [true, true, false, false, false, false, false, false, true, true, true] else
 if f = 180 ∧ k = some 3 then [true, true, false, false, false, false, false, false, true, true, true] else
 if f = 180 ∧ k = some 5 then [true, true, false, false, false, false, false, false, true, true, true] else
 if f = 181 ∧ k = some 3 then [true, true, false, false, false, false, false, false, true, true, true, true] else
 if f = 181 ∧ k = some 5 then [true, true, false, false, false, false, false, false, true, true, true, true] else
 if f = 181 ∧ k = some 13 then [true, true, false, false, false, false, false, false, true, true, true, true] else
 if f = 181 ∧ k = some 13 then [true, true, false, false, false, false, false, false, true, true, true, true] else
 if f = 181 ∧ k = some 15 then [true, true, false, false, false, false, false, false, true, true, true, true] else
 if f = 184 ∧ k = some 10 then [true, true, false, false, false, false, true, false, true, false, true, true, true] else
 if f = 185 ∧ k = some 4 then [true, false, false, false, true, true, true, true] else
 if f = 190 ∧ k = some 4 then [false, false, true, true, true, true, true, false, false, false, false, false, false, false, false, false, false, false, false, false, false, false, false, false, true, true, true] else
 if f = 193 ∧ k = some 2 then [true, true, false, false, true, false, false, true, true] else
 if f = 196 ∧ k = some 5 then [true, false, false, true, true, true, false, false, true, false, false, false, false, false, true, true, true] else
 if f = 201 ∧ k = some 1 then [true, false, true, true] else
 if f = 202 ∧ k = some 3 then [false, false, true, true, false, false, false, false, false, true] else
 if f = 204 ∧ k = some 1 then [true, false, true, true] else
 if f = 207 ∧ k = some 3 then [true, true, false, false, true, true, true, true, true] else
 if f = 208 ∧ k = some 7 then [false, true, false, false, true, true, true, true, true, true] else
 if f = 209 ∧ k = some 1 then [true, false, true, true, false, false, false, false, true] else
 if f = 223 ∧ k = some 3 then [false, false, false, false, true, true, false, false, false, false, true] else
 if f = 226 ∧ k = some 1 then [true, true, false, true] else
 if f = 227 ∧ k = some 3 then [false, false, false, true, true, true, true, true, true] else
 if f = 228 ∧ k = some 5 then [true, true, false, false, true, true, true, true, true] else
 if f = 230 ∧ k = some 4 then [true, true, true, false, false, false, true, true] else
 if f = 231 ∧ k = some 2 then [true, true, false, false, true, false, false, true, true] else
 if f = 237 ∧ k = some 3 then [true, false, true, true, false, false, false, false, false, true, true, true] else
 if f = 237 ∧ k = some 11 then [false, false, true, false, false, false, true, false, false, false, false, false, false, false, false, false, false, false, false, false, false, false, false, false, false, true, true, true] else
 if f = 238 ∧ k = some 1 then [true, true, false, true] else
 if f = 240 ∧ k = some 3 then [true, true, false, false, true, true, true] else
 if f = 240 ∧ k = some 7 then [true, true, false, false, true, true, false, true] else
 if f = 240 ∧ k = some 10 then [true, true, false, false, true, true, false, true, true] else
 if f = 241 ∧ k = some 2 then [true, true, true, false, true, true, true] else
 if f = 242 ∧ k = some 4 then [true, true, false, false, true, true, true, true] else
 if f = 242 ∧ k = some 9 then [true, true, false, false, true, true, true, true, true, true] else
 if f = 248 ∧ k = some 4 then [true, true, false, false, true, false, false, false, false, false, false, false, true, true] else
 []
def iBb (f : FuncId) : Option (List LV → Option (LV × List Row)) :=
 if f = 69 then some (mDa 9 1) else
 if f = 78 then some (mDa 31 2) else
 if f = 240 then some uZa else
 none
noncomputable def lVb (f : FuncId) : Option (List KV → Option (Ck × KV × List aYa)) :=
 if f = 69 then some (qGa ((tyP Tryz.prog 8 9).getD .unit) 9 1) else
 if f = 78 then some (qGa ((tyP Tryz.prog 8 31).getD .unit) 31 2) else
 if f = 240 then some uYa else
 none
def lEb (f : FuncId) : Option (List LV → Option LV) :=
 if f = 221 then some hUa else
 none
def nHb (f : FuncId) : Option (List KV → Option (Ck × KV)) :=
 if f = 221 then some nTa else
 none
def gWb (f : FuncId) : Option (List LV → St → Option (LV × St)) :=
 if f = 72 then some (nUa 98 2) else
 if f = 94 then some eQb else
 none
def mWb (f : FuncId) : Option (List KV → KSt → Option (Ck × KV × KSt)) :=
 if f = 72 then some (aBb 98 2) else
 if f = 94 then some mUb else
 none
def th : Th := {
 ent := fun f => qRb.has f
 pureF := fun f => qKb.has f
 prim := iBb
 ext := lEb
 extS := gWb
 keep := mDb
 own := rAb.mem
 fresh := jVb
 frz := qZb.mem
 grow := fun f => qDb.contains f
 gcF := fun f => gcL.contains f
 gc := qCb }
noncomputable def S0 (fk : Fk) (bd : Bd) (sm : Sm) : Cs := {
 fk := fk
 bd := bd
 sm := sm
 T := tyT.find
 bt := fun _ => none
 ct := lVb
 xt := nHb
 st := mWb
 bl := fun _ _ => none
 lt := fun _ _ => none }
instance : FkOK (S0 jKa lIa bFb) := ⟨fun _ _ _ => rfl, fun _ _ => rfl, fun _ _ _ => rfl⟩
end Go.Proofs.YtpeaaophmddhnaaGreat.LI
