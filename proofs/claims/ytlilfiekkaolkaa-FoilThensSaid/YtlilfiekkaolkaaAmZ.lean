/- All functions. -/
import Derived.Test.YtlilfiekkaolkaaAmY0
import Derived.Test.YtlilfiekkaolkaaAmY1
import Derived.Test.YtlilfiekkaolkaaAmY2
import Derived.Test.YtlilfiekkaolkaaAmY3
import Derived.Test.YtlilfiekkaolkaaAmY4
import Derived.Test.YtlilfiekkaolkaaAmY5
import Derived.Test.YtlilfiekkaolkaaAmY6
namespace Go.Proofs.Ytlilfiekkaolkaa.Am
open Go
def m1040 : MFunc := { m40 with pol := 4 }
def m1097 : MFunc := { m97 with pol := 2 }
def m1112 : MFunc := { m112 with pol := 4 }
def m1130 : MFunc := { m130 with pol := 4 }
def m1147 : MFunc := { m147 with pol := 4 }
def m1156 : MFunc := { m156 with pol := 4 }
inductive Tr where
  | lf
  | nd (l : Tr) (k : Nat) (m : MFunc) (r : Tr)
def Tr.look : Tr → Nat → Option MFunc
  | .lf, _ => none
  | .nd l k m r, f => bif Nat.beq f k then some m else bif Nat.blt f k then l.look f else r.look f
def Tr.all (p : Nat → MFunc → Bool) : Tr → Bool
  | .lf => true
  | .nd l k m r => l.all p && (p k m && r.all p)
def tbl : Tr := (.nd (.nd (.nd (.nd (.nd (.nd (.nd (.nd .lf 3 m3 .lf) 4 m4 (.nd .lf 5 m5 .lf)) 6 m6 (.nd (.nd .lf 7 m7 .lf) 8 m8 .lf)) 9 m9 (.nd (.nd (.nd .lf 10 m10 .lf) 11 m11 (.nd .lf 12 m12 .lf)) 13 m13 (.nd (.nd .lf 14 m14 .lf) 15 m15 .lf))) 16 m16 (.nd (.nd (.nd (.nd .lf 17 m17 .lf) 18 m18 (.nd .lf 19 m19 .lf)) 20 m20 (.nd (.nd .lf 21 m21 .lf) 22 m22 .lf)) 23 m23 (.nd (.nd (.nd .lf 24 m24 .lf) 25 m25 (.nd .lf 26 m26 .lf)) 27 m27 (.nd (.nd .lf 28 m28 .lf) 29 m29 .lf)))) 30 m30 (.nd (.nd (.nd (.nd (.nd .lf 31 m31 .lf) 32 m32 (.nd .lf 33 m33 .lf)) 34 m34 (.nd (.nd .lf 35 m35 .lf) 36 m36 .lf)) 37 m37 (.nd (.nd (.nd .lf 38 m38 .lf) 39 m39 (.nd .lf 40 m40 .lf)) 41 m41 (.nd (.nd .lf 42 m42 .lf) 43 m43 .lf))) 44 m44 (.nd (.nd (.nd (.nd .lf 45 m45 .lf) 46 m46 (.nd .lf 47 m47 .lf)) 48 m48 (.nd (.nd .lf 49 m49 .lf) 50 m50 .lf)) 51 m51 (.nd (.nd (.nd .lf 52 m52 .lf) 53 m53 .lf) 54 m54 (.nd (.nd .lf 55 m55 .lf) 56 m56 .lf))))) 57 m57 (.nd (.nd (.nd (.nd (.nd (.nd .lf 58 m58 .lf) 59 m59 (.nd .lf 60 m60 .lf)) 61 m61 (.nd (.nd .lf 62 m62 .lf) 63 m63 .lf)) 64 m64 (.nd (.nd (.nd .lf 65 m65 .lf) 66 m66 (.nd .lf 67 m67 .lf)) 68 m68 (.nd (.nd .lf 69 m69 .lf) 70 m70 .lf))) 71 m71 (.nd (.nd (.nd (.nd .lf 72 m72 .lf) 73 m73 (.nd .lf 74 m74 .lf)) 75 m75 (.nd (.nd .lf 76 m76 .lf) 77 m77 .lf)) 78 m78 (.nd (.nd (.nd .lf 79 m79 .lf) 80 m80 (.nd .lf 81 m81 .lf)) 82 m82 (.nd (.nd .lf 83 m83 .lf) 84 m84 .lf)))) 85 m85 (.nd (.nd (.nd (.nd (.nd .lf 86 m86 .lf) 87 m87 (.nd .lf 88 m88 .lf)) 89 m89 (.nd (.nd .lf 90 m90 .lf) 91 m91 .lf)) 92 m92 (.nd (.nd (.nd .lf 93 m93 .lf) 94 m94 (.nd .lf 95 m95 .lf)) 96 m96 (.nd (.nd .lf 97 m97 .lf) 98 m98 .lf))) 99 m99 (.nd (.nd (.nd (.nd .lf 100 m100 .lf) 101 m101 (.nd .lf 102 m102 .lf)) 103 m103 (.nd (.nd .lf 104 m104 .lf) 105 m105 .lf)) 106 m106 (.nd (.nd (.nd .lf 107 m107 .lf) 108 m108 .lf) 109 m109 (.nd (.nd .lf 110 m110 .lf) 111 m111 .lf)))))) 112 m112 (.nd (.nd (.nd (.nd (.nd (.nd (.nd .lf 113 m113 .lf) 114 m114 (.nd .lf 115 m115 .lf)) 116 m116 (.nd (.nd .lf 117 m117 .lf) 118 m118 .lf)) 119 m119 (.nd (.nd (.nd .lf 120 m120 .lf) 121 m121 (.nd .lf 122 m122 .lf)) 123 m123 (.nd (.nd .lf 124 m124 .lf) 125 m125 .lf))) 126 m126 (.nd (.nd (.nd (.nd .lf 127 m127 .lf) 128 m128 (.nd .lf 129 m129 .lf)) 130 m130 (.nd (.nd .lf 131 m131 .lf) 132 m132 .lf)) 133 m133 (.nd (.nd (.nd .lf 134 m134 .lf) 135 m135 (.nd .lf 136 m136 .lf)) 137 m137 (.nd (.nd .lf 138 m138 .lf) 139 m139 .lf)))) 140 m140 (.nd (.nd (.nd (.nd (.nd .lf 141 m141 .lf) 142 m142 (.nd .lf 143 m143 .lf)) 144 m144 (.nd (.nd .lf 145 m145 .lf) 146 m146 .lf)) 147 m147 (.nd (.nd (.nd .lf 148 m148 .lf) 149 m149 (.nd .lf 150 m150 .lf)) 151 m151 (.nd (.nd .lf 152 m152 .lf) 153 m153 .lf))) 154 m154 (.nd (.nd (.nd (.nd .lf 155 m155 .lf) 156 m156 (.nd .lf 157 m157 .lf)) 158 m158 (.nd (.nd .lf 159 m159 .lf) 160 m160 .lf)) 161 m161 (.nd (.nd (.nd .lf 162 m162 .lf) 163 m163 .lf) 164 m164 (.nd (.nd .lf 165 m165 .lf) 166 m166 .lf))))) 167 m167 (.nd (.nd (.nd (.nd (.nd (.nd .lf 168 m168 .lf) 169 m169 (.nd .lf 170 m170 .lf)) 171 m171 (.nd (.nd .lf 172 m172 .lf) 173 m173 .lf)) 174 m174 (.nd (.nd (.nd .lf 175 m175 .lf) 176 m176 (.nd .lf 177 m177 .lf)) 178 m178 (.nd (.nd .lf 179 m179 .lf) 180 m180 .lf))) 181 m181 (.nd (.nd (.nd (.nd .lf 182 m182 .lf) 183 m183 (.nd .lf 184 m184 .lf)) 185 m185 (.nd (.nd .lf 186 m186 .lf) 187 m187 .lf)) 188 m188 (.nd (.nd (.nd .lf 189 m189 .lf) 190 m190 (.nd .lf 191 m191 .lf)) 192 m192 (.nd (.nd .lf 193 m193 .lf) 194 m194 .lf)))) 195 m195 (.nd (.nd (.nd (.nd (.nd .lf 196 m196 .lf) 197 m197 (.nd .lf 198 m198 .lf)) 199 m199 (.nd (.nd .lf 200 m200 .lf) 201 m201 .lf)) 202 m202 (.nd (.nd (.nd .lf 203 m203 .lf) 204 m204 (.nd .lf 205 m205 .lf)) 222 m222 (.nd (.nd .lf 223 m223 .lf) 224 m224 .lf))) 225 m225 (.nd (.nd (.nd (.nd .lf 226 m226 .lf) 227 m227 (.nd .lf 228 m228 .lf)) 229 m229 (.nd (.nd .lf 230 m230 .lf) 231 m231 .lf)) 1040 m1040 (.nd (.nd (.nd .lf 1097 m1097 .lf) 1112 m1112 .lf) 1130 m1130 (.nd (.nd .lf 1147 m1147 .lf) 1156 m1156 .lf)))))))
def prog (f : Nat) : Option MFunc := tbl.look f
end Go.Proofs.Ytlilfiekkaolkaa.Am
