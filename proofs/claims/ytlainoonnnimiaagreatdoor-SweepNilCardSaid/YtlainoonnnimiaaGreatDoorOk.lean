/- THE TABLES OF THE ABSTRACT MACHINE ARE THE PROGRAM's: printed by a program of our own (wip/prof). -/
import Derived.Test.YtlainoonnnimiaaGreatDoorTab
import Derived.Test.YtlainoonnnimiaaGreatDoorEvZ
import Derived.KernelRfl
set_option linter.all false
set_option linter.unusedVariables false
set_option linter.constructorNameAsVariable false
set_option linter.unnecessarySimpa false
set_option linter.unusedSimpArgs false
namespace Go.Ev
open Go.Proofs
theorem tr1 : tiOf Tryz.prog 1 = some ty1 := by kernel_rfl
theorem tr2 : tiOf Tryz.prog 2 = some ty2 := by kernel_rfl
theorem tr3 : tiOf Tryz.prog 3 = some ty3 := by kernel_rfl
theorem tr4 : tiOf Tryz.prog 4 = some ty4 := by kernel_rfl
theorem tr5 : tiOf Tryz.prog 5 = some ty5 := by kernel_rfl
theorem tr6 : tiOf Tryz.prog 6 = some ty6 := by kernel_rfl
theorem tr7 : tiOf Tryz.prog 7 = some ty7 := by kernel_rfl
theorem tr8 : tiOf Tryz.prog 8 = some ty8 := by kernel_rfl
theorem tr9 : tiOf Tryz.prog 9 = some ty9 := by kernel_rfl
theorem tr10 : tiOf Tryz.prog 10 = some ty10 := by kernel_rfl
theorem tr11 : tiOf Tryz.prog 11 = some ty11 := by kernel_rfl
theorem tr12 : tiOf Tryz.prog 12 = some ty12 := by kernel_rfl
theorem tr15 : tiOf Tryz.prog 15 = some ty15 := by kernel_rfl
theorem tr16 : tiOf Tryz.prog 16 = some ty16 := by kernel_rfl
theorem tr17 : tiOf Tryz.prog 17 = some ty17 := by kernel_rfl
theorem tr20 : tiOf Tryz.prog 20 = some ty20 := by kernel_rfl
theorem tr21 : tiOf Tryz.prog 21 = some ty21 := by kernel_rfl
theorem tr22 : tiOf Tryz.prog 22 = some ty22 := by kernel_rfl
theorem tr23 : tiOf Tryz.prog 23 = some ty23 := by kernel_rfl
theorem tr24 : tiOf Tryz.prog 24 = some ty24 := by kernel_rfl
theorem tr26 : tiOf Tryz.prog 26 = some ty26 := by kernel_rfl
theorem tr27 : tiOf Tryz.prog 27 = some ty27 := by kernel_rfl
theorem tr28 : tiOf Tryz.prog 28 = some ty28 := by kernel_rfl
theorem tr29 : tiOf Tryz.prog 29 = some ty29 := by kernel_rfl
theorem tr31 : tiOf Tryz.prog 31 = some ty31 := by kernel_rfl
theorem tr32 : tiOf Tryz.prog 32 = some ty32 := by kernel_rfl
theorem tr33 : tiOf Tryz.prog 33 = some ty33 := by kernel_rfl
theorem tr34 : tiOf Tryz.prog 34 = some ty34 := by kernel_rfl
theorem tr35 : tiOf Tryz.prog 35 = some ty35 := by kernel_rfl
theorem tr36 : tiOf Tryz.prog 36 = some ty36 := by kernel_rfl
theorem tr37 : tiOf Tryz.prog 37 = some ty37 := by kernel_rfl
theorem tr39 : tiOf Tryz.prog 39 = some ty39 := by kernel_rfl
theorem tr40 : tiOf Tryz.prog 40 = some ty40 := by kernel_rfl
theorem tr42 : tiOf Tryz.prog 42 = some ty42 := by kernel_rfl
theorem tr43 : tiOf Tryz.prog 43 = some ty43 := by kernel_rfl
theorem tr44 : tiOf Tryz.prog 44 = some ty44 := by kernel_rfl
theorem tr45 : tiOf Tryz.prog 45 = some ty45 := by kernel_rfl
theorem tr46 : tiOf Tryz.prog 46 = some ty46 := by kernel_rfl
theorem tr48 : tiOf Tryz.prog 48 = some ty48 := by kernel_rfl
theorem tr50 : tiOf Tryz.prog 50 = some ty50 := by kernel_rfl
theorem tr51 : tiOf Tryz.prog 51 = some ty51 := by kernel_rfl
theorem tr52 : tiOf Tryz.prog 52 = some ty52 := by kernel_rfl
theorem tr53 : tiOf Tryz.prog 53 = some ty53 := by kernel_rfl
theorem tr54 : tiOf Tryz.prog 54 = some ty54 := by kernel_rfl
theorem tr55 : tiOf Tryz.prog 55 = some ty55 := by kernel_rfl
theorem tr56 : tiOf Tryz.prog 56 = some ty56 := by kernel_rfl
theorem tr57 : tiOf Tryz.prog 57 = some ty57 := by kernel_rfl
theorem tr58 : tiOf Tryz.prog 58 = some ty58 := by kernel_rfl
theorem tr59 : tiOf Tryz.prog 59 = some ty59 := by kernel_rfl
theorem tr60 : tiOf Tryz.prog 60 = some ty60 := by kernel_rfl
theorem tr61 : tiOf Tryz.prog 61 = some ty61 := by kernel_rfl
theorem tr62 : tiOf Tryz.prog 62 = some ty62 := by kernel_rfl
theorem tr63 : tiOf Tryz.prog 63 = some ty63 := by kernel_rfl
theorem tr64 : tiOf Tryz.prog 64 = some ty64 := by kernel_rfl
theorem tr65 : tiOf Tryz.prog 65 = some ty65 := by kernel_rfl
theorem tr67 : tiOf Tryz.prog 67 = some ty67 := by kernel_rfl
theorem tr68 : tiOf Tryz.prog 68 = some ty68 := by kernel_rfl
theorem tr69 : tiOf Tryz.prog 69 = some ty69 := by kernel_rfl
theorem tr70 : tiOf Tryz.prog 70 = some ty70 := by kernel_rfl
theorem tr71 : tiOf Tryz.prog 71 = some ty71 := by kernel_rfl
theorem tr73 : tiOf Tryz.prog 73 = some ty73 := by kernel_rfl
theorem tr74 : tiOf Tryz.prog 74 = some ty74 := by kernel_rfl
theorem tr75 : tiOf Tryz.prog 75 = some ty75 := by kernel_rfl
theorem tr76 : tiOf Tryz.prog 76 = some ty76 := by kernel_rfl
theorem tr78 : tiOf Tryz.prog 78 = some ty78 := by kernel_rfl
theorem tr79 : tiOf Tryz.prog 79 = some ty79 := by kernel_rfl
theorem tr80 : tiOf Tryz.prog 80 = some ty80 := by kernel_rfl
theorem tr82 : tiOf Tryz.prog 82 = some ty82 := by kernel_rfl
theorem tr83 : tiOf Tryz.prog 83 = some ty83 := by kernel_rfl
theorem tr84 : tiOf Tryz.prog 84 = some ty84 := by kernel_rfl
theorem tr85 : tiOf Tryz.prog 85 = some ty85 := by kernel_rfl
theorem tr86 : tiOf Tryz.prog 86 = some ty86 := by kernel_rfl
theorem tr88 : tiOf Tryz.prog 88 = some ty88 := by kernel_rfl
theorem tr89 : tiOf Tryz.prog 89 = some ty89 := by kernel_rfl
theorem tr91 : tiOf Tryz.prog 91 = some ty91 := by kernel_rfl
theorem tr93 : tiOf Tryz.prog 93 = some ty93 := by kernel_rfl
theorem tr95 : tiOf Tryz.prog 95 = some ty95 := by kernel_rfl
theorem tr96 : tiOf Tryz.prog 96 = some ty96 := by kernel_rfl
theorem tr97 : tiOf Tryz.prog 97 = some ty97 := by kernel_rfl
theorem tr98 : tiOf Tryz.prog 98 = some ty98 := by kernel_rfl
theorem tr99 : tiOf Tryz.prog 99 = some ty99 := by kernel_rfl
theorem tr100 : tiOf Tryz.prog 100 = some ty100 := by kernel_rfl
theorem tr101 : tiOf Tryz.prog 101 = some ty101 := by kernel_rfl
theorem tr102 : tiOf Tryz.prog 102 = some ty102 := by kernel_rfl
theorem tr103 : tiOf Tryz.prog 103 = some ty103 := by kernel_rfl
theorem tr104 : tiOf Tryz.prog 104 = some ty104 := by kernel_rfl
theorem tr105 : tiOf Tryz.prog 105 = some ty105 := by kernel_rfl
theorem tr106 : tiOf Tryz.prog 106 = some ty106 := by kernel_rfl
theorem tr107 : tiOf Tryz.prog 107 = some ty107 := by kernel_rfl
theorem tr108 : tiOf Tryz.prog 108 = some ty108 := by kernel_rfl
theorem tr109 : tiOf Tryz.prog 109 = some ty109 := by kernel_rfl
theorem tr110 : tiOf Tryz.prog 110 = some ty110 := by kernel_rfl
theorem tr111 : tiOf Tryz.prog 111 = some ty111 := by kernel_rfl
theorem tr112 : tiOf Tryz.prog 112 = some ty112 := by kernel_rfl
theorem tr113 : tiOf Tryz.prog 113 = some ty113 := by kernel_rfl
theorem tr114 : tiOf Tryz.prog 114 = some ty114 := by kernel_rfl
theorem tr115 : tiOf Tryz.prog 115 = some ty115 := by kernel_rfl
theorem tr116 : tiOf Tryz.prog 116 = some ty116 := by kernel_rfl
theorem tr117 : tiOf Tryz.prog 117 = some ty117 := by kernel_rfl
theorem tr118 : tiOf Tryz.prog 118 = some ty118 := by kernel_rfl
theorem tr120 : tiOf Tryz.prog 120 = some ty120 := by kernel_rfl
theorem tr121 : tiOf Tryz.prog 121 = some ty121 := by kernel_rfl
theorem tr123 : tiOf Tryz.prog 123 = some ty123 := by kernel_rfl
theorem tr124 : tiOf Tryz.prog 124 = some ty124 := by kernel_rfl
theorem tr125 : tiOf Tryz.prog 125 = some ty125 := by kernel_rfl
theorem tr126 : tiOf Tryz.prog 126 = some ty126 := by kernel_rfl
theorem tr127 : tiOf Tryz.prog 127 = some ty127 := by kernel_rfl
theorem tr128 : tiOf Tryz.prog 128 = some ty128 := by kernel_rfl
theorem tr129 : tiOf Tryz.prog 129 = some ty129 := by kernel_rfl
theorem tr130 : tiOf Tryz.prog 130 = some ty130 := by kernel_rfl
theorem tr131 : tiOf Tryz.prog 131 = some ty131 := by kernel_rfl
theorem tr132 : tiOf Tryz.prog 132 = some ty132 := by kernel_rfl
theorem tr133 : tiOf Tryz.prog 133 = some ty133 := by kernel_rfl
theorem tr134 : tiOf Tryz.prog 134 = some ty134 := by kernel_rfl
theorem tr136 : tiOf Tryz.prog 136 = some ty136 := by kernel_rfl
theorem tr137 : tiOf Tryz.prog 137 = some ty137 := by kernel_rfl
theorem tr138 : tiOf Tryz.prog 138 = some ty138 := by kernel_rfl
theorem tr139 : tiOf Tryz.prog 139 = some ty139 := by kernel_rfl
theorem tr140 : tiOf Tryz.prog 140 = some ty140 := by kernel_rfl
theorem tr141 : tiOf Tryz.prog 141 = some ty141 := by kernel_rfl
theorem tr142 : tiOf Tryz.prog 142 = some ty142 := by kernel_rfl
theorem tr143 : tiOf Tryz.prog 143 = some ty143 := by kernel_rfl
theorem tr144 : tiOf Tryz.prog 144 = some ty144 := by kernel_rfl
theorem tr145 : tiOf Tryz.prog 145 = some ty145 := by kernel_rfl
theorem tr146 : tiOf Tryz.prog 146 = some ty146 := by kernel_rfl
theorem tr147 : tiOf Tryz.prog 147 = some ty147 := by kernel_rfl
theorem tr148 : tiOf Tryz.prog 148 = some ty148 := by kernel_rfl
theorem tr149 : tiOf Tryz.prog 149 = some ty149 := by kernel_rfl
theorem tr150 : tiOf Tryz.prog 150 = some ty150 := by kernel_rfl
theorem tr151 : tiOf Tryz.prog 151 = some ty151 := by kernel_rfl
theorem tr152 : tiOf Tryz.prog 152 = some ty152 := by kernel_rfl
theorem tr153 : tiOf Tryz.prog 153 = some ty153 := by kernel_rfl
theorem tr154 : tiOf Tryz.prog 154 = some ty154 := by kernel_rfl
theorem tr155 : tiOf Tryz.prog 155 = some ty155 := by kernel_rfl
theorem tr156 : tiOf Tryz.prog 156 = some ty156 := by kernel_rfl
theorem tr158 : tiOf Tryz.prog 158 = some ty158 := by kernel_rfl
theorem tr159 : tiOf Tryz.prog 159 = some ty159 := by kernel_rfl
theorem tr160 : tiOf Tryz.prog 160 = some ty160 := by kernel_rfl
theorem tr162 : tiOf Tryz.prog 162 = some ty162 := by kernel_rfl
theorem tr164 : tiOf Tryz.prog 164 = some ty164 := by kernel_rfl
theorem tr165 : tiOf Tryz.prog 165 = some ty165 := by kernel_rfl
theorem tr166 : tiOf Tryz.prog 166 = some ty166 := by kernel_rfl
theorem tr167 : tiOf Tryz.prog 167 = some ty167 := by kernel_rfl
theorem tr168 : tiOf Tryz.prog 168 = some ty168 := by kernel_rfl
theorem tr169 : tiOf Tryz.prog 169 = some ty169 := by kernel_rfl
theorem tr170 : tiOf Tryz.prog 170 = some ty170 := by kernel_rfl
theorem tr171 : tiOf Tryz.prog 171 = some ty171 := by kernel_rfl
theorem tr172 : tiOf Tryz.prog 172 = some ty172 := by kernel_rfl
theorem tr173 : tiOf Tryz.prog 173 = some ty173 := by kernel_rfl
theorem tr174 : tiOf Tryz.prog 174 = some ty174 := by kernel_rfl
theorem tr176 : tiOf Tryz.prog 176 = some ty176 := by kernel_rfl
theorem tr177 : tiOf Tryz.prog 177 = some ty177 := by kernel_rfl
theorem tr178 : tiOf Tryz.prog 178 = some ty178 := by kernel_rfl
theorem tr179 : tiOf Tryz.prog 179 = some ty179 := by kernel_rfl
theorem tr180 : tiOf Tryz.prog 180 = some ty180 := by kernel_rfl
theorem tr181 : tiOf Tryz.prog 181 = some ty181 := by kernel_rfl
theorem tr182 : tiOf Tryz.prog 182 = some ty182 := by kernel_rfl
theorem tr183 : tiOf Tryz.prog 183 = some ty183 := by kernel_rfl
theorem tr184 : tiOf Tryz.prog 184 = some ty184 := by kernel_rfl
theorem tr185 : tiOf Tryz.prog 185 = some ty185 := by kernel_rfl
theorem tr186 : tiOf Tryz.prog 186 = some ty186 := by kernel_rfl
theorem tr187 : tiOf Tryz.prog 187 = some ty187 := by kernel_rfl
theorem tr188 : tiOf Tryz.prog 188 = some ty188 := by kernel_rfl
theorem tr189 : tiOf Tryz.prog 189 = some ty189 := by kernel_rfl
theorem tr191 : tiOf Tryz.prog 191 = some ty191 := by kernel_rfl
theorem tr192 : tiOf Tryz.prog 192 = some ty192 := by kernel_rfl
theorem tr193 : tiOf Tryz.prog 193 = some ty193 := by kernel_rfl
theorem tr194 : tiOf Tryz.prog 194 = some ty194 := by kernel_rfl
theorem tr195 : tiOf Tryz.prog 195 = some ty195 := by kernel_rfl
theorem tr196 : tiOf Tryz.prog 196 = some ty196 := by kernel_rfl
theorem tr197 : tiOf Tryz.prog 197 = some ty197 := by kernel_rfl
theorem tr198 : tiOf Tryz.prog 198 = some ty198 := by kernel_rfl
theorem tr199 : tiOf Tryz.prog 199 = some ty199 := by kernel_rfl
theorem tr200 : tiOf Tryz.prog 200 = some ty200 := by kernel_rfl
theorem tr201 : tiOf Tryz.prog 201 = some ty201 := by kernel_rfl
theorem tr202 : tiOf Tryz.prog 202 = some ty202 := by kernel_rfl
theorem tr203 : tiOf Tryz.prog 203 = some ty203 := by kernel_rfl
theorem tr204 : tiOf Tryz.prog 204 = some ty204 := by kernel_rfl
theorem tr205 : tiOf Tryz.prog 205 = some ty205 := by kernel_rfl
theorem tr206 : tiOf Tryz.prog 206 = some ty206 := by kernel_rfl
theorem tr207 : tiOf Tryz.prog 207 = some ty207 := by kernel_rfl
theorem tr208 : tiOf Tryz.prog 208 = some ty208 := by kernel_rfl
theorem tr209 : tiOf Tryz.prog 209 = some ty209 := by kernel_rfl
theorem tr210 : tiOf Tryz.prog 210 = some ty210 := by kernel_rfl
theorem tr211 : tiOf Tryz.prog 211 = some ty211 := by kernel_rfl
theorem tr212 : tiOf Tryz.prog 212 = some ty212 := by kernel_rfl
theorem tr213 : tiOf Tryz.prog 213 = some ty213 := by kernel_rfl
theorem tr214 : tiOf Tryz.prog 214 = some ty214 := by kernel_rfl
theorem tr215 : tiOf Tryz.prog 215 = some ty215 := by kernel_rfl
theorem tr216 : tiOf Tryz.prog 216 = some ty216 := by kernel_rfl
theorem tr217 : tiOf Tryz.prog 217 = some ty217 := by kernel_rfl
theorem tr218 : tiOf Tryz.prog 218 = some ty218 := by kernel_rfl
theorem tr219 : tiOf Tryz.prog 219 = some ty219 := by kernel_rfl
theorem tr220 : tiOf Tryz.prog 220 = some ty220 := by kernel_rfl
theorem tr221 : tiOf Tryz.prog 221 = some ty221 := by kernel_rfl
theorem tr222 : tiOf Tryz.prog 222 = some ty222 := by kernel_rfl
theorem tr223 : tiOf Tryz.prog 223 = some ty223 := by kernel_rfl
theorem tr224 : tiOf Tryz.prog 224 = some ty224 := by kernel_rfl
theorem tr225 : tiOf Tryz.prog 225 = some ty225 := by kernel_rfl
theorem tr226 : tiOf Tryz.prog 226 = some ty226 := by kernel_rfl
theorem tr227 : tiOf Tryz.prog 227 = some ty227 := by kernel_rfl
theorem tr229 : tiOf Tryz.prog 229 = some ty229 := by kernel_rfl
theorem tr230 : tiOf Tryz.prog 230 = some ty230 := by kernel_rfl
theorem tr231 : tiOf Tryz.prog 231 = some ty231 := by kernel_rfl
theorem tr232 : tiOf Tryz.prog 232 = some ty232 := by kernel_rfl
theorem tr233 : tiOf Tryz.prog 233 = some ty233 := by kernel_rfl
theorem tr234 : tiOf Tryz.prog 234 = some ty234 := by kernel_rfl
theorem tr236 : tiOf Tryz.prog 236 = some ty236 := by kernel_rfl
theorem tr237 : tiOf Tryz.prog 237 = some ty237 := by kernel_rfl
theorem tr238 : tiOf Tryz.prog 238 = some ty238 := by kernel_rfl
theorem tr239 : tiOf Tryz.prog 239 = some ty239 := by kernel_rfl
theorem tr240 : tiOf Tryz.prog 240 = some ty240 := by kernel_rfl
theorem tr241 : tiOf Tryz.prog 241 = some ty241 := by kernel_rfl
theorem tr242 : tiOf Tryz.prog 242 = some ty242 := by kernel_rfl
theorem tr243 : tiOf Tryz.prog 243 = some ty243 := by kernel_rfl
theorem tr244 : tiOf Tryz.prog 244 = some ty244 := by kernel_rfl
theorem tr245 : tiOf Tryz.prog 245 = some ty245 := by kernel_rfl
theorem tr246 : tiOf Tryz.prog 246 = some ty246 := by kernel_rfl
theorem tr247 : tiOf Tryz.prog 247 = some ty247 := by kernel_rfl
theorem tr248 : tiOf Tryz.prog 248 = some ty248 := by kernel_rfl
theorem tr249 : tiOf Tryz.prog 249 = some ty249 := by kernel_rfl
theorem tr250 : tiOf Tryz.prog 250 = some ty250 := by kernel_rfl
theorem tr251 : tiOf Tryz.prog 251 = some ty251 := by kernel_rfl
theorem tr252 : tiOf Tryz.prog 252 = some ty252 := by kernel_rfl
theorem tr253 : tiOf Tryz.prog 253 = some ty253 := by kernel_rfl
theorem tr254 : tiOf Tryz.prog 254 = some ty254 := by kernel_rfl
theorem tr255 : tiOf Tryz.prog 255 = some ty255 := by kernel_rfl
theorem tr256 : tiOf Tryz.prog 256 = some ty256 := by kernel_rfl
theorem tr257 : tiOf Tryz.prog 257 = some ty257 := by kernel_rfl
theorem tr258 : tiOf Tryz.prog 258 = some ty258 := by kernel_rfl
theorem tr259 : tiOf Tryz.prog 259 = some ty259 := by kernel_rfl
theorem tr261 : tiOf Tryz.prog 261 = some ty261 := by kernel_rfl
theorem tr262 : tiOf Tryz.prog 262 = some ty262 := by kernel_rfl
theorem tr263 : tiOf Tryz.prog 263 = some ty263 := by kernel_rfl
theorem tr264 : tiOf Tryz.prog 264 = some ty264 := by kernel_rfl
theorem tr265 : tiOf Tryz.prog 265 = some ty265 := by kernel_rfl
theorem tr266 : tiOf Tryz.prog 266 = some ty266 := by kernel_rfl
theorem tr267 : tiOf Tryz.prog 267 = some ty267 := by kernel_rfl
theorem tr268 : tiOf Tryz.prog 268 = some ty268 := by kernel_rfl
theorem tr269 : tiOf Tryz.prog 269 = some ty269 := by kernel_rfl
theorem tr270 : tiOf Tryz.prog 270 = some ty270 := by kernel_rfl
theorem tr271 : tiOf Tryz.prog 271 = some ty271 := by kernel_rfl
theorem tr272 : tiOf Tryz.prog 272 = some ty272 := by kernel_rfl
theorem tr273 : tiOf Tryz.prog 273 = some ty273 := by kernel_rfl
theorem tr274 : tiOf Tryz.prog 274 = some ty274 := by kernel_rfl
theorem tr275 : tiOf Tryz.prog 275 = some ty275 := by kernel_rfl
theorem tr276 : tiOf Tryz.prog 276 = some ty276 := by kernel_rfl
theorem tr277 : tiOf Tryz.prog 277 = some ty277 := by kernel_rfl
theorem tr278 : tiOf Tryz.prog 278 = some ty278 := by kernel_rfl
theorem tr279 : tiOf Tryz.prog 279 = some ty279 := by kernel_rfl
theorem tr280 : tiOf Tryz.prog 280 = some ty280 := by kernel_rfl
theorem tr281 : tiOf Tryz.prog 281 = some ty281 := by kernel_rfl
theorem tr282 : tiOf Tryz.prog 282 = some ty282 := by kernel_rfl
theorem tr283 : tiOf Tryz.prog 283 = some ty283 := by kernel_rfl
theorem tr284 : tiOf Tryz.prog 284 = some ty284 := by kernel_rfl
theorem tr286 : tiOf Tryz.prog 286 = some ty286 := by kernel_rfl
theorem tr287 : tiOf Tryz.prog 287 = some ty287 := by kernel_rfl
theorem tr288 : tiOf Tryz.prog 288 = some ty288 := by kernel_rfl
theorem tr289 : tiOf Tryz.prog 289 = some ty289 := by kernel_rfl
theorem tr290 : tiOf Tryz.prog 290 = some ty290 := by kernel_rfl
theorem tr291 : tiOf Tryz.prog 291 = some ty291 := by kernel_rfl
theorem tr292 : tiOf Tryz.prog 292 = some ty292 := by kernel_rfl
theorem tr293 : tiOf Tryz.prog 293 = some ty293 := by kernel_rfl
theorem tr294 : tiOf Tryz.prog 294 = some ty294 := by kernel_rfl
theorem tr295 : tiOf Tryz.prog 295 = some ty295 := by kernel_rfl
theorem tr296 : tiOf Tryz.prog 296 = some ty296 := by kernel_rfl
theorem tr297 : tiOf Tryz.prog 297 = some ty297 := by kernel_rfl
theorem tr298 : tiOf Tryz.prog 298 = some ty298 := by kernel_rfl
theorem tr299 : tiOf Tryz.prog 299 = some ty299 := by kernel_rfl
theorem tr300 : tiOf Tryz.prog 300 = some ty300 := by kernel_rfl
theorem tr302 : tiOf Tryz.prog 302 = some ty302 := by kernel_rfl
theorem tr303 : tiOf Tryz.prog 303 = some ty303 := by kernel_rfl
theorem tr304 : tiOf Tryz.prog 304 = some ty304 := by kernel_rfl
theorem tr305 : tiOf Tryz.prog 305 = some ty305 := by kernel_rfl
theorem tr307 : tiOf Tryz.prog 307 = some ty307 := by kernel_rfl
theorem tr308 : tiOf Tryz.prog 308 = some ty308 := by kernel_rfl
theorem tr309 : tiOf Tryz.prog 309 = some ty309 := by kernel_rfl
theorem tr310 : tiOf Tryz.prog 310 = some ty310 := by kernel_rfl
theorem tr311 : tiOf Tryz.prog 311 = some ty311 := by kernel_rfl
theorem tr312 : tiOf Tryz.prog 312 = some ty312 := by kernel_rfl
theorem tr313 : tiOf Tryz.prog 313 = some ty313 := by kernel_rfl
theorem tr314 : tiOf Tryz.prog 314 = some ty314 := by kernel_rfl
theorem tr315 : tiOf Tryz.prog 315 = some ty315 := by kernel_rfl
theorem tr316 : tiOf Tryz.prog 316 = some ty316 := by kernel_rfl
theorem tr317 : tiOf Tryz.prog 317 = some ty317 := by kernel_rfl
theorem tr318 : tiOf Tryz.prog 318 = some ty318 := by kernel_rfl
theorem tr319 : tiOf Tryz.prog 319 = some ty319 := by kernel_rfl
theorem tr320 : tiOf Tryz.prog 320 = some ty320 := by kernel_rfl
theorem tr321 : tiOf Tryz.prog 321 = some ty321 := by kernel_rfl
theorem tr322 : tiOf Tryz.prog 322 = some ty322 := by kernel_rfl
theorem tr323 : tiOf Tryz.prog 323 = some ty323 := by kernel_rfl
theorem tr324 : tiOf Tryz.prog 324 = some ty324 := by kernel_rfl
theorem tr325 : tiOf Tryz.prog 325 = some ty325 := by kernel_rfl
theorem tr326 : tiOf Tryz.prog 326 = some ty326 := by kernel_rfl
theorem tr327 : tiOf Tryz.prog 327 = some ty327 := by kernel_rfl
theorem tr328 : tiOf Tryz.prog 328 = some ty328 := by kernel_rfl
theorem tr329 : tiOf Tryz.prog 329 = some ty329 := by kernel_rfl
theorem tr330 : tiOf Tryz.prog 330 = some ty330 := by kernel_rfl
theorem tr331 : tiOf Tryz.prog 331 = some ty331 := by kernel_rfl
theorem tr332 : tiOf Tryz.prog 332 = some ty332 := by kernel_rfl
theorem tr333 : tiOf Tryz.prog 333 = some ty333 := by kernel_rfl
theorem tr334 : tiOf Tryz.prog 334 = some ty334 := by kernel_rfl
theorem tr335 : tiOf Tryz.prog 335 = some ty335 := by kernel_rfl
theorem tr336 : tiOf Tryz.prog 336 = some ty336 := by kernel_rfl
theorem tr337 : tiOf Tryz.prog 337 = some ty337 := by kernel_rfl
theorem tr338 : tiOf Tryz.prog 338 = some ty338 := by kernel_rfl
theorem tr339 : tiOf Tryz.prog 339 = some ty339 := by kernel_rfl
theorem tr340 : tiOf Tryz.prog 340 = some ty340 := by kernel_rfl
theorem tr343 : tiOf Tryz.prog 343 = some ty343 := by kernel_rfl
theorem tr346 : tiOf Tryz.prog 346 = some ty346 := by kernel_rfl
theorem tr347 : tiOf Tryz.prog 347 = some ty347 := by kernel_rfl
theorem tr348 : tiOf Tryz.prog 348 = some ty348 := by kernel_rfl
theorem tr349 : tiOf Tryz.prog 349 = some ty349 := by kernel_rfl
theorem tr350 : tiOf Tryz.prog 350 = some ty350 := by kernel_rfl
theorem tr351 : tiOf Tryz.prog 351 = some ty351 := by kernel_rfl
theorem tr354 : tiOf Tryz.prog 354 = some ty354 := by kernel_rfl
noncomputable def tl0 : List (Nat × TI) := [(1, ty1), (2, ty2), (3, ty3), (4, ty4), (5, ty5), (6, ty6), (7, ty7), (8, ty8), (9, ty9), (10, ty10), (11, ty11), (12, ty12), (15, ty15), (16, ty16), (17, ty17), (20, ty20), (21, ty21), (22, ty22), (23, ty23), (24, ty24), (26, ty26), (27, ty27), (28, ty28), (29, ty29), (31, ty31)]
theorem tlo0 : AllP (fun t ti => tiOf Tryz.prog t = some ti) tl0 := ⟨tr1, ⟨tr2, ⟨tr3, ⟨tr4, ⟨tr5, ⟨tr6, ⟨tr7, ⟨tr8, ⟨tr9, ⟨tr10, ⟨tr11, ⟨tr12, ⟨tr15, ⟨tr16, ⟨tr17, ⟨tr20, ⟨tr21, ⟨tr22, ⟨tr23, ⟨tr24, ⟨tr26, ⟨tr27, ⟨tr28, ⟨tr29, ⟨tr31, trivial⟩⟩⟩⟩⟩⟩⟩⟩⟩⟩⟩⟩⟩⟩⟩⟩⟩⟩⟩⟩⟩⟩⟩⟩⟩
noncomputable def tl1 : List (Nat × TI) := [(32, ty32), (33, ty33), (34, ty34), (35, ty35), (36, ty36), (37, ty37), (39, ty39), (40, ty40), (42, ty42), (43, ty43), (44, ty44), (45, ty45), (46, ty46), (48, ty48), (50, ty50), (51, ty51), (52, ty52), (53, ty53), (54, ty54), (55, ty55), (56, ty56), (57, ty57), (58, ty58), (59, ty59), (60, ty60)]
theorem tlo1 : AllP (fun t ti => tiOf Tryz.prog t = some ti) tl1 := ⟨tr32, ⟨tr33, ⟨tr34, ⟨tr35, ⟨tr36, ⟨tr37, ⟨tr39, ⟨tr40, ⟨tr42, ⟨tr43, ⟨tr44, ⟨tr45, ⟨tr46, ⟨tr48, ⟨tr50, ⟨tr51, ⟨tr52, ⟨tr53, ⟨tr54, ⟨tr55, ⟨tr56, ⟨tr57, ⟨tr58, ⟨tr59, ⟨tr60, trivial⟩⟩⟩⟩⟩⟩⟩⟩⟩⟩⟩⟩⟩⟩⟩⟩⟩⟩⟩⟩⟩⟩⟩⟩⟩
noncomputable def tl2 : List (Nat × TI) := [(61, ty61), (62, ty62), (63, ty63), (64, ty64), (65, ty65), (67, ty67), (68, ty68), (69, ty69), (70, ty70), (71, ty71), (73, ty73), (74, ty74), (75, ty75), (76, ty76), (78, ty78), (79, ty79), (80, ty80), (82, ty82), (83, ty83), (84, ty84), (85, ty85), (86, ty86), (88, ty88), (89, ty89), (91, ty91)]
theorem tlo2 : AllP (fun t ti => tiOf Tryz.prog t = some ti) tl2 := ⟨tr61, ⟨tr62, ⟨tr63, ⟨tr64, ⟨tr65, ⟨tr67, ⟨tr68, ⟨tr69, ⟨tr70, ⟨tr71, ⟨tr73, ⟨tr74, ⟨tr75, ⟨tr76, ⟨tr78, ⟨tr79, ⟨tr80, ⟨tr82, ⟨tr83, ⟨tr84, ⟨tr85, ⟨tr86, ⟨tr88, ⟨tr89, ⟨tr91, trivial⟩⟩⟩⟩⟩⟩⟩⟩⟩⟩⟩⟩⟩⟩⟩⟩⟩⟩⟩⟩⟩⟩⟩⟩⟩
noncomputable def tl3 : List (Nat × TI) := [(93, ty93), (95, ty95), (96, ty96), (97, ty97), (98, ty98), (99, ty99), (100, ty100), (101, ty101), (102, ty102), (103, ty103), (104, ty104), (105, ty105), (106, ty106), (107, ty107), (108, ty108), (109, ty109), (110, ty110), (111, ty111), (112, ty112), (113, ty113), (114, ty114), (115, ty115), (116, ty116), (117, ty117), (118, ty118)]
theorem tlo3 : AllP (fun t ti => tiOf Tryz.prog t = some ti) tl3 := ⟨tr93, ⟨tr95, ⟨tr96, ⟨tr97, ⟨tr98, ⟨tr99, ⟨tr100, ⟨tr101, ⟨tr102, ⟨tr103, ⟨tr104, ⟨tr105, ⟨tr106, ⟨tr107, ⟨tr108, ⟨tr109, ⟨tr110, ⟨tr111, ⟨tr112, ⟨tr113, ⟨tr114, ⟨tr115, ⟨tr116, ⟨tr117, ⟨tr118, trivial⟩⟩⟩⟩⟩⟩⟩⟩⟩⟩⟩⟩⟩⟩⟩⟩⟩⟩⟩⟩⟩⟩⟩⟩⟩
noncomputable def tl4 : List (Nat × TI) := [(120, ty120), (121, ty121), (123, ty123), (124, ty124), (125, ty125), (126, ty126), (127, ty127), (128, ty128), (129, ty129), (130, ty130), (131, ty131), (132, ty132), (133, ty133), (134, ty134), (136, ty136), (137, ty137), (138, ty138), (139, ty139), (140, ty140), (141, ty141), (142, ty142), (143, ty143), (144, ty144), (145, ty145), (146, ty146)]
theorem tlo4 : AllP (fun t ti => tiOf Tryz.prog t = some ti) tl4 := ⟨tr120, ⟨tr121, ⟨tr123, ⟨tr124, ⟨tr125, ⟨tr126, ⟨tr127, ⟨tr128, ⟨tr129, ⟨tr130, ⟨tr131, ⟨tr132, ⟨tr133, ⟨tr134, ⟨tr136, ⟨tr137, ⟨tr138, ⟨tr139, ⟨tr140, ⟨tr141, ⟨tr142, ⟨tr143, ⟨tr144, ⟨tr145, ⟨tr146, trivial⟩⟩⟩⟩⟩⟩⟩⟩⟩⟩⟩⟩⟩⟩⟩⟩⟩⟩⟩⟩⟩⟩⟩⟩⟩
noncomputable def tl5 : List (Nat × TI) := [(147, ty147), (148, ty148), (149, ty149), (150, ty150), (151, ty151), (152, ty152), (153, ty153), (154, ty154), (155, ty155), (156, ty156), (158, ty158), (159, ty159), (160, ty160), (162, ty162), (164, ty164), (165, ty165), (166, ty166), (167, ty167), (168, ty168), (169, ty169), (170, ty170), (171, ty171), (172, ty172), (173, ty173), (174, ty174)]
theorem tlo5 : AllP (fun t ti => tiOf Tryz.prog t = some ti) tl5 := ⟨tr147, ⟨tr148, ⟨tr149, ⟨tr150, ⟨tr151, ⟨tr152, ⟨tr153, ⟨tr154, ⟨tr155, ⟨tr156, ⟨tr158, ⟨tr159, ⟨tr160, ⟨tr162, ⟨tr164, ⟨tr165, ⟨tr166, ⟨tr167, ⟨tr168, ⟨tr169, ⟨tr170, ⟨tr171, ⟨tr172, ⟨tr173, ⟨tr174, trivial⟩⟩⟩⟩⟩⟩⟩⟩⟩⟩⟩⟩⟩⟩⟩⟩⟩⟩⟩⟩⟩⟩⟩⟩⟩
noncomputable def tl6 : List (Nat × TI) := [(176, ty176), (177, ty177), (178, ty178), (179, ty179), (180, ty180), (181, ty181), (182, ty182), (183, ty183), (184, ty184), (185, ty185), (186, ty186), (187, ty187), (188, ty188), (189, ty189), (191, ty191), (192, ty192), (193, ty193), (194, ty194), (195, ty195), (196, ty196), (197, ty197), (198, ty198), (199, ty199), (200, ty200), (201, ty201)]
theorem tlo6 : AllP (fun t ti => tiOf Tryz.prog t = some ti) tl6 := ⟨tr176, ⟨tr177, ⟨tr178, ⟨tr179, ⟨tr180, ⟨tr181, ⟨tr182, ⟨tr183, ⟨tr184, ⟨tr185, ⟨tr186, ⟨tr187, ⟨tr188, ⟨tr189, ⟨tr191, ⟨tr192, ⟨tr193, ⟨tr194, ⟨tr195, ⟨tr196, ⟨tr197, ⟨tr198, ⟨tr199, ⟨tr200, ⟨tr201, trivial⟩⟩⟩⟩⟩⟩⟩⟩⟩⟩⟩⟩⟩⟩⟩⟩⟩⟩⟩⟩⟩⟩⟩⟩⟩
noncomputable def tl7 : List (Nat × TI) := [(202, ty202), (203, ty203), (204, ty204), (205, ty205), (206, ty206), (207, ty207), (208, ty208), (209, ty209), (210, ty210), (211, ty211), (212, ty212), (213, ty213), (214, ty214), (215, ty215), (216, ty216), (217, ty217), (218, ty218), (219, ty219), (220, ty220), (221, ty221), (222, ty222), (223, ty223), (224, ty224), (225, ty225), (226, ty226)]
theorem tlo7 : AllP (fun t ti => tiOf Tryz.prog t = some ti) tl7 := ⟨tr202, ⟨tr203, ⟨tr204, ⟨tr205, ⟨tr206, ⟨tr207, ⟨tr208, ⟨tr209, ⟨tr210, ⟨tr211, ⟨tr212, ⟨tr213, ⟨tr214, ⟨tr215, ⟨tr216, ⟨tr217, ⟨tr218, ⟨tr219, ⟨tr220, ⟨tr221, ⟨tr222, ⟨tr223, ⟨tr224, ⟨tr225, ⟨tr226, trivial⟩⟩⟩⟩⟩⟩⟩⟩⟩⟩⟩⟩⟩⟩⟩⟩⟩⟩⟩⟩⟩⟩⟩⟩⟩
noncomputable def tl8 : List (Nat × TI) := [(227, ty227), (229, ty229), (230, ty230), (231, ty231), (232, ty232), (233, ty233), (234, ty234), (236, ty236), (237, ty237), (238, ty238), (239, ty239), (240, ty240), (241, ty241), (242, ty242), (243, ty243), (244, ty244), (245, ty245), (246, ty246), (247, ty247), (248, ty248), (249, ty249), (250, ty250), (251, ty251), (252, ty252), (253, ty253)]
theorem tlo8 : AllP (fun t ti => tiOf Tryz.prog t = some ti) tl8 := ⟨tr227, ⟨tr229, ⟨tr230, ⟨tr231, ⟨tr232, ⟨tr233, ⟨tr234, ⟨tr236, ⟨tr237, ⟨tr238, ⟨tr239, ⟨tr240, ⟨tr241, ⟨tr242, ⟨tr243, ⟨tr244, ⟨tr245, ⟨tr246, ⟨tr247, ⟨tr248, ⟨tr249, ⟨tr250, ⟨tr251, ⟨tr252, ⟨tr253, trivial⟩⟩⟩⟩⟩⟩⟩⟩⟩⟩⟩⟩⟩⟩⟩⟩⟩⟩⟩⟩⟩⟩⟩⟩⟩
noncomputable def tl9 : List (Nat × TI) := [(254, ty254), (255, ty255), (256, ty256), (257, ty257), (258, ty258), (259, ty259), (261, ty261), (262, ty262), (263, ty263), (264, ty264), (265, ty265), (266, ty266), (267, ty267), (268, ty268), (269, ty269), (270, ty270), (271, ty271), (272, ty272), (273, ty273), (274, ty274), (275, ty275), (276, ty276), (277, ty277), (278, ty278), (279, ty279)]
theorem tlo9 : AllP (fun t ti => tiOf Tryz.prog t = some ti) tl9 := ⟨tr254, ⟨tr255, ⟨tr256, ⟨tr257, ⟨tr258, ⟨tr259, ⟨tr261, ⟨tr262, ⟨tr263, ⟨tr264, ⟨tr265, ⟨tr266, ⟨tr267, ⟨tr268, ⟨tr269, ⟨tr270, ⟨tr271, ⟨tr272, ⟨tr273, ⟨tr274, ⟨tr275, ⟨tr276, ⟨tr277, ⟨tr278, ⟨tr279, trivial⟩⟩⟩⟩⟩⟩⟩⟩⟩⟩⟩⟩⟩⟩⟩⟩⟩⟩⟩⟩⟩⟩⟩⟩⟩
noncomputable def tl10 : List (Nat × TI) := [(280, ty280), (281, ty281), (282, ty282), (283, ty283), (284, ty284), (286, ty286), (287, ty287), (288, ty288), (289, ty289), (290, ty290), (291, ty291), (292, ty292), (293, ty293), (294, ty294), (295, ty295), (296, ty296), (297, ty297), (298, ty298), (299, ty299), (300, ty300), (302, ty302), (303, ty303), (304, ty304), (305, ty305), (307, ty307)]
theorem tlo10 : AllP (fun t ti => tiOf Tryz.prog t = some ti) tl10 := ⟨tr280, ⟨tr281, ⟨tr282, ⟨tr283, ⟨tr284, ⟨tr286, ⟨tr287, ⟨tr288, ⟨tr289, ⟨tr290, ⟨tr291, ⟨tr292, ⟨tr293, ⟨tr294, ⟨tr295, ⟨tr296, ⟨tr297, ⟨tr298, ⟨tr299, ⟨tr300, ⟨tr302, ⟨tr303, ⟨tr304, ⟨tr305, ⟨tr307, trivial⟩⟩⟩⟩⟩⟩⟩⟩⟩⟩⟩⟩⟩⟩⟩⟩⟩⟩⟩⟩⟩⟩⟩⟩⟩
noncomputable def tl11 : List (Nat × TI) := [(308, ty308), (309, ty309), (310, ty310), (311, ty311), (312, ty312), (313, ty313), (314, ty314), (315, ty315), (316, ty316), (317, ty317), (318, ty318), (319, ty319), (320, ty320), (321, ty321), (322, ty322), (323, ty323), (324, ty324), (325, ty325), (326, ty326), (327, ty327), (328, ty328), (329, ty329), (330, ty330), (331, ty331), (332, ty332)]
theorem tlo11 : AllP (fun t ti => tiOf Tryz.prog t = some ti) tl11 := ⟨tr308, ⟨tr309, ⟨tr310, ⟨tr311, ⟨tr312, ⟨tr313, ⟨tr314, ⟨tr315, ⟨tr316, ⟨tr317, ⟨tr318, ⟨tr319, ⟨tr320, ⟨tr321, ⟨tr322, ⟨tr323, ⟨tr324, ⟨tr325, ⟨tr326, ⟨tr327, ⟨tr328, ⟨tr329, ⟨tr330, ⟨tr331, ⟨tr332, trivial⟩⟩⟩⟩⟩⟩⟩⟩⟩⟩⟩⟩⟩⟩⟩⟩⟩⟩⟩⟩⟩⟩⟩⟩⟩
noncomputable def tl12 : List (Nat × TI) := [(333, ty333), (334, ty334), (335, ty335), (336, ty336), (337, ty337), (338, ty338), (339, ty339), (340, ty340), (343, ty343), (346, ty346), (347, ty347), (348, ty348), (349, ty349), (350, ty350), (351, ty351), (354, ty354)]
theorem tlo12 : AllP (fun t ti => tiOf Tryz.prog t = some ti) tl12 := ⟨tr333, ⟨tr334, ⟨tr335, ⟨tr336, ⟨tr337, ⟨tr338, ⟨tr339, ⟨tr340, ⟨tr343, ⟨tr346, ⟨tr347, ⟨tr348, ⟨tr349, ⟨tr350, ⟨tr351, ⟨tr354, trivial⟩⟩⟩⟩⟩⟩⟩⟩⟩⟩⟩⟩⟩⟩⟩⟩
noncomputable def tyL : List (Nat × TI) := tl0 ++ (tl1 ++ (tl2 ++ (tl3 ++ (tl4 ++ (tl5 ++ (tl6 ++ (tl7 ++ (tl8 ++ (tl9 ++ (tl10 ++ (tl11 ++ (tl12))))))))))))
theorem tys_eq : tys = ofL tyL .l := by kernel_rfl
theorem tys_ok : TyOk Tryz.prog tys := fun t ti h => AllP.get (AllP.append tlo0 (AllP.append tlo1 (AllP.append tlo2 (AllP.append tlo3 (AllP.append tlo4 (AllP.append tlo5 (AllP.append tlo6 (AllP.append tlo7 (AllP.append tlo8 (AllP.append tlo9 (AllP.append tlo10 (AllP.append tlo11 (tlo12)))))))))))) : AllP (fun t ti => tiOf Tryz.prog t = some ti) tyL) (tys_eq ▸ h)
theorem fr2 : FnRow Tryz.prog 2 fi2 := ⟨Tryz.f2, Tryz.func2, by kernel_rfl, rfl, rfl, by kernel_rfl, by kernel_rfl⟩
theorem fr3 : FnRow Tryz.prog 3 fi3 := ⟨Tryz.f3, Tryz.func3, by kernel_rfl, rfl, rfl, by kernel_rfl, by kernel_rfl⟩
theorem fr4 : FnRow Tryz.prog 4 fi4 := ⟨Tryz.f4, Tryz.func4, by kernel_rfl, rfl, rfl, by kernel_rfl, by kernel_rfl⟩
theorem fr5 : FnRow Tryz.prog 5 fi5 := ⟨Tryz.f5, Tryz.func5, by kernel_rfl, rfl, rfl, by kernel_rfl, by kernel_rfl⟩
theorem fr6 : FnRow Tryz.prog 6 fi6 := ⟨Tryz.f6, Tryz.func6, by kernel_rfl, rfl, rfl, by kernel_rfl, by kernel_rfl⟩
theorem fr7 : FnRow Tryz.prog 7 fi7 := ⟨Tryz.f7, Tryz.func7, by kernel_rfl, rfl, rfl, by kernel_rfl, by kernel_rfl⟩
theorem fr8 : FnRow Tryz.prog 8 fi8 := ⟨Tryz.f8, Tryz.func8, by kernel_rfl, rfl, rfl, by kernel_rfl, by kernel_rfl⟩
theorem fr9 : FnRow Tryz.prog 9 fi9 := ⟨Tryz.f9, Tryz.func9, by kernel_rfl, rfl, rfl, by kernel_rfl, by kernel_rfl⟩
theorem fr10 : FnRow Tryz.prog 10 fi10 := ⟨Tryz.f10, Tryz.func10, by kernel_rfl, rfl, rfl, by kernel_rfl, by kernel_rfl⟩
theorem fr11 : FnRow Tryz.prog 11 fi11 := ⟨Tryz.f11, Tryz.func11, by kernel_rfl, rfl, rfl, by kernel_rfl, by kernel_rfl⟩
theorem fr12 : FnRow Tryz.prog 12 fi12 := ⟨Tryz.f12, Tryz.func12, by kernel_rfl, rfl, rfl, by kernel_rfl, by kernel_rfl⟩
theorem fr13 : FnRow Tryz.prog 13 fi13 := ⟨Tryz.f13, Tryz.func13, by kernel_rfl, rfl, rfl, by kernel_rfl, by kernel_rfl⟩
theorem fr14 : FnRow Tryz.prog 14 fi14 := ⟨Tryz.f14, Tryz.func14, by kernel_rfl, rfl, rfl, by kernel_rfl, by kernel_rfl⟩
theorem fr15 : FnRow Tryz.prog 15 fi15 := ⟨Tryz.f15, Tryz.func15, by kernel_rfl, rfl, rfl, by kernel_rfl, by kernel_rfl⟩
theorem fr16 : FnRow Tryz.prog 16 fi16 := ⟨Tryz.f16, Tryz.func16, by kernel_rfl, rfl, rfl, by kernel_rfl, by kernel_rfl⟩
theorem fr17 : FnRow Tryz.prog 17 fi17 := ⟨Tryz.f17, Tryz.func17, by kernel_rfl, rfl, rfl, by kernel_rfl, by kernel_rfl⟩
theorem fr18 : FnRow Tryz.prog 18 fi18 := ⟨Tryz.f18, Tryz.func18, by kernel_rfl, rfl, rfl, by kernel_rfl, by kernel_rfl⟩
theorem fr19 : FnRow Tryz.prog 19 fi19 := ⟨Tryz.f19, Tryz.func19, by kernel_rfl, rfl, rfl, by kernel_rfl, by kernel_rfl⟩
theorem fr20 : FnRow Tryz.prog 20 fi20 := ⟨Tryz.f20, Tryz.func20, by kernel_rfl, rfl, rfl, by kernel_rfl, by kernel_rfl⟩
theorem fr21 : FnRow Tryz.prog 21 fi21 := ⟨Tryz.f21, Tryz.func21, by kernel_rfl, rfl, rfl, by kernel_rfl, by kernel_rfl⟩
theorem fr22 : FnRow Tryz.prog 22 fi22 := ⟨Tryz.f22, Tryz.func22, by kernel_rfl, rfl, rfl, by kernel_rfl, by kernel_rfl⟩
theorem fr23 : FnRow Tryz.prog 23 fi23 := ⟨Tryz.f23, Tryz.func23, by kernel_rfl, rfl, rfl, by kernel_rfl, by kernel_rfl⟩
theorem fr24 : FnRow Tryz.prog 24 fi24 := ⟨Tryz.f24, Tryz.func24, by kernel_rfl, rfl, rfl, by kernel_rfl, by kernel_rfl⟩
theorem fr25 : FnRow Tryz.prog 25 fi25 := ⟨Tryz.f25, Tryz.func25, by kernel_rfl, rfl, rfl, by kernel_rfl, by kernel_rfl⟩
theorem fr26 : FnRow Tryz.prog 26 fi26 := ⟨Tryz.f26, Tryz.func26, by kernel_rfl, rfl, rfl, by kernel_rfl, by kernel_rfl⟩
theorem fr27 : FnRow Tryz.prog 27 fi27 := ⟨Tryz.f27, Tryz.func27, by kernel_rfl, rfl, rfl, by kernel_rfl, by kernel_rfl⟩
theorem fr28 : FnRow Tryz.prog 28 fi28 := ⟨Tryz.f28, Tryz.func28, by kernel_rfl, rfl, rfl, by kernel_rfl, by kernel_rfl⟩
theorem fr29 : FnRow Tryz.prog 29 fi29 := ⟨Tryz.f29, Tryz.func29, by kernel_rfl, rfl, rfl, by kernel_rfl, by kernel_rfl⟩
theorem fr30 : FnRow Tryz.prog 30 fi30 := ⟨Tryz.f30, Tryz.func30, by kernel_rfl, rfl, rfl, by kernel_rfl, by kernel_rfl⟩
theorem fr31 : FnRow Tryz.prog 31 fi31 := ⟨Tryz.f31, Tryz.func31, by kernel_rfl, rfl, rfl, by kernel_rfl, by kernel_rfl⟩
theorem fr32 : FnRow Tryz.prog 32 fi32 := ⟨Tryz.f32, Tryz.func32, by kernel_rfl, rfl, rfl, by kernel_rfl, by kernel_rfl⟩
theorem fr33 : FnRow Tryz.prog 33 fi33 := ⟨Tryz.f33, Tryz.func33, by kernel_rfl, rfl, rfl, by kernel_rfl, by kernel_rfl⟩
theorem fr34 : FnRow Tryz.prog 34 fi34 := ⟨Tryz.f34, Tryz.func34, by kernel_rfl, rfl, rfl, by kernel_rfl, by kernel_rfl⟩
theorem fr35 : FnRow Tryz.prog 35 fi35 := ⟨Tryz.f35, Tryz.func35, by kernel_rfl, rfl, rfl, by kernel_rfl, by kernel_rfl⟩
theorem fr36 : FnRow Tryz.prog 36 fi36 := ⟨Tryz.f36, Tryz.func36, by kernel_rfl, rfl, rfl, by kernel_rfl, by kernel_rfl⟩
theorem fr37 : FnRow Tryz.prog 37 fi37 := ⟨Tryz.f37, Tryz.func37, by kernel_rfl, rfl, rfl, by kernel_rfl, by kernel_rfl⟩
theorem fr38 : FnRow Tryz.prog 38 fi38 := ⟨Tryz.f38, Tryz.func38, by kernel_rfl, rfl, rfl, by kernel_rfl, by kernel_rfl⟩
theorem fr39 : FnRow Tryz.prog 39 fi39 := ⟨Tryz.f39, Tryz.func39, by kernel_rfl, rfl, rfl, by kernel_rfl, by kernel_rfl⟩
theorem fr40 : FnRow Tryz.prog 40 fi40 := ⟨Tryz.f40, Tryz.func40, by kernel_rfl, rfl, rfl, by kernel_rfl, by kernel_rfl⟩
theorem fr41 : FnRow Tryz.prog 41 fi41 := ⟨Tryz.f41, Tryz.func41, by kernel_rfl, rfl, rfl, by kernel_rfl, by kernel_rfl⟩
theorem fr42 : FnRow Tryz.prog 42 fi42 := ⟨Tryz.f42, Tryz.func42, by kernel_rfl, rfl, rfl, by kernel_rfl, by kernel_rfl⟩
theorem fr43 : FnRow Tryz.prog 43 fi43 := ⟨Tryz.f43, Tryz.func43, by kernel_rfl, rfl, rfl, by kernel_rfl, by kernel_rfl⟩
theorem fr44 : FnRow Tryz.prog 44 fi44 := ⟨Tryz.f44, Tryz.func44, by kernel_rfl, rfl, rfl, by kernel_rfl, by kernel_rfl⟩
theorem fr45 : FnRow Tryz.prog 45 fi45 := ⟨Tryz.f45, Tryz.func45, by kernel_rfl, rfl, rfl, by kernel_rfl, by kernel_rfl⟩
theorem fr46 : FnRow Tryz.prog 46 fi46 := ⟨Tryz.f46, Tryz.func46, by kernel_rfl, rfl, rfl, by kernel_rfl, by kernel_rfl⟩
theorem fr47 : FnRow Tryz.prog 47 fi47 := ⟨Tryz.f47, Tryz.func47, by kernel_rfl, rfl, rfl, by kernel_rfl, by kernel_rfl⟩
theorem fr48 : FnRow Tryz.prog 48 fi48 := ⟨Tryz.f48, Tryz.func48, by kernel_rfl, rfl, rfl, by kernel_rfl, by kernel_rfl⟩
theorem fr49 : FnRow Tryz.prog 49 fi49 := ⟨Tryz.f49, Tryz.func49, by kernel_rfl, rfl, rfl, by kernel_rfl, by kernel_rfl⟩
theorem fr50 : FnRow Tryz.prog 50 fi50 := ⟨Tryz.f50, Tryz.func50, by kernel_rfl, rfl, rfl, by kernel_rfl, by kernel_rfl⟩
theorem fr51 : FnRow Tryz.prog 51 fi51 := ⟨Tryz.f51, Tryz.func51, by kernel_rfl, rfl, rfl, by kernel_rfl, by kernel_rfl⟩
theorem fr52 : FnRow Tryz.prog 52 fi52 := ⟨Tryz.f52, Tryz.func52, by kernel_rfl, rfl, rfl, by kernel_rfl, by kernel_rfl⟩
theorem fr53 : FnRow Tryz.prog 53 fi53 := ⟨Tryz.f53, Tryz.func53, by kernel_rfl, rfl, rfl, by kernel_rfl, by kernel_rfl⟩
theorem fr54 : FnRow Tryz.prog 54 fi54 := ⟨Tryz.f54, Tryz.func54, by kernel_rfl, rfl, rfl, by kernel_rfl, by kernel_rfl⟩
theorem fr55 : FnRow Tryz.prog 55 fi55 := ⟨Tryz.f55, Tryz.func55, by kernel_rfl, rfl, rfl, by kernel_rfl, by kernel_rfl⟩
theorem fr56 : FnRow Tryz.prog 56 fi56 := ⟨Tryz.f56, Tryz.func56, by kernel_rfl, rfl, rfl, by kernel_rfl, by kernel_rfl⟩
theorem fr57 : FnRow Tryz.prog 57 fi57 := ⟨Tryz.f57, Tryz.func57, by kernel_rfl, rfl, rfl, by kernel_rfl, by kernel_rfl⟩
theorem fr58 : FnRow Tryz.prog 58 fi58 := ⟨Tryz.f58, Tryz.func58, by kernel_rfl, rfl, rfl, by kernel_rfl, by kernel_rfl⟩
theorem fr59 : FnRow Tryz.prog 59 fi59 := ⟨Tryz.f59, Tryz.func59, by kernel_rfl, rfl, rfl, by kernel_rfl, by kernel_rfl⟩
theorem fr60 : FnRow Tryz.prog 60 fi60 := ⟨Tryz.f60, Tryz.func60, by kernel_rfl, rfl, rfl, by kernel_rfl, by kernel_rfl⟩
theorem fr61 : FnRow Tryz.prog 61 fi61 := ⟨Tryz.f61, Tryz.func61, by kernel_rfl, rfl, rfl, by kernel_rfl, by kernel_rfl⟩
theorem fr62 : FnRow Tryz.prog 62 fi62 := ⟨Tryz.f62, Tryz.func62, by kernel_rfl, rfl, rfl, by kernel_rfl, by kernel_rfl⟩
theorem fr63 : FnRow Tryz.prog 63 fi63 := ⟨Tryz.f63, Tryz.func63, by kernel_rfl, rfl, rfl, by kernel_rfl, by kernel_rfl⟩
theorem fr64 : FnRow Tryz.prog 64 fi64 := ⟨Tryz.f64, Tryz.func64, by kernel_rfl, rfl, rfl, by kernel_rfl, by kernel_rfl⟩
theorem fr65 : FnRow Tryz.prog 65 fi65 := ⟨Tryz.f65, Tryz.func65, by kernel_rfl, rfl, rfl, by kernel_rfl, by kernel_rfl⟩
theorem fr66 : FnRow Tryz.prog 66 fi66 := ⟨Tryz.f66, Tryz.func66, by kernel_rfl, rfl, rfl, by kernel_rfl, by kernel_rfl⟩
theorem fr67 : FnRow Tryz.prog 67 fi67 := ⟨Tryz.f67, Tryz.func67, by kernel_rfl, rfl, rfl, by kernel_rfl, by kernel_rfl⟩
theorem fr68 : FnRow Tryz.prog 68 fi68 := ⟨Tryz.f68, Tryz.func68, by kernel_rfl, rfl, rfl, by kernel_rfl, by kernel_rfl⟩
theorem fr69 : FnRow Tryz.prog 69 fi69 := ⟨Tryz.f69, Tryz.func69, by kernel_rfl, rfl, rfl, by kernel_rfl, by kernel_rfl⟩
theorem fr70 : FnRow Tryz.prog 70 fi70 := ⟨Tryz.f70, Tryz.func70, by kernel_rfl, rfl, rfl, by kernel_rfl, by kernel_rfl⟩
theorem fr71 : FnRow Tryz.prog 71 fi71 := ⟨Tryz.f71, Tryz.func71, by kernel_rfl, rfl, rfl, by kernel_rfl, by kernel_rfl⟩
theorem fr72 : FnRow Tryz.prog 72 fi72 := ⟨Tryz.f72, Tryz.func72, by kernel_rfl, rfl, rfl, by kernel_rfl, by kernel_rfl⟩
theorem fr73 : FnRow Tryz.prog 73 fi73 := ⟨Tryz.f73, Tryz.func73, by kernel_rfl, rfl, rfl, by kernel_rfl, by kernel_rfl⟩
theorem fr74 : FnRow Tryz.prog 74 fi74 := ⟨Tryz.f74, Tryz.func74, by kernel_rfl, rfl, rfl, by kernel_rfl, by kernel_rfl⟩
theorem fr75 : FnRow Tryz.prog 75 fi75 := ⟨Tryz.f75, Tryz.func75, by kernel_rfl, rfl, rfl, by kernel_rfl, by kernel_rfl⟩
theorem fr76 : FnRow Tryz.prog 76 fi76 := ⟨Tryz.f76, Tryz.func76, by kernel_rfl, rfl, rfl, by kernel_rfl, by kernel_rfl⟩
theorem fr77 : FnRow Tryz.prog 77 fi77 := ⟨Tryz.f77, Tryz.func77, by kernel_rfl, rfl, rfl, by kernel_rfl, by kernel_rfl⟩
theorem fr78 : FnRow Tryz.prog 78 fi78 := ⟨Tryz.f78, Tryz.func78, by kernel_rfl, rfl, rfl, by kernel_rfl, by kernel_rfl⟩
theorem fr79 : FnRow Tryz.prog 79 fi79 := ⟨Tryz.f79, Tryz.func79, by kernel_rfl, rfl, rfl, by kernel_rfl, by kernel_rfl⟩
theorem fr80 : FnRow Tryz.prog 80 fi80 := ⟨Tryz.f80, Tryz.func80, by kernel_rfl, rfl, rfl, by kernel_rfl, by kernel_rfl⟩
theorem fr81 : FnRow Tryz.prog 81 fi81 := ⟨Tryz.f81, Tryz.func81, by kernel_rfl, rfl, rfl, by kernel_rfl, by kernel_rfl⟩
theorem fr82 : FnRow Tryz.prog 82 fi82 := ⟨Tryz.f82, Tryz.func82, by kernel_rfl, rfl, rfl, by kernel_rfl, by kernel_rfl⟩
theorem fr83 : FnRow Tryz.prog 83 fi83 := ⟨Tryz.f83, Tryz.func83, by kernel_rfl, rfl, rfl, by kernel_rfl, by kernel_rfl⟩
theorem fr84 : FnRow Tryz.prog 84 fi84 := ⟨Tryz.f84, Tryz.func84, by kernel_rfl, rfl, rfl, by kernel_rfl, by kernel_rfl⟩
theorem fr85 : FnRow Tryz.prog 85 fi85 := ⟨Tryz.f85, Tryz.func85, by kernel_rfl, rfl, rfl, by kernel_rfl, by kernel_rfl⟩
theorem fr86 : FnRow Tryz.prog 86 fi86 := ⟨Tryz.f86, Tryz.func86, by kernel_rfl, rfl, rfl, by kernel_rfl, by kernel_rfl⟩
theorem fr87 : FnRow Tryz.prog 87 fi87 := ⟨Tryz.f87, Tryz.func87, by kernel_rfl, rfl, rfl, by kernel_rfl, by kernel_rfl⟩
theorem fr88 : FnRow Tryz.prog 88 fi88 := ⟨Tryz.f88, Tryz.func88, by kernel_rfl, rfl, rfl, by kernel_rfl, by kernel_rfl⟩
theorem fr89 : FnRow Tryz.prog 89 fi89 := ⟨Tryz.f89, Tryz.func89, by kernel_rfl, rfl, rfl, by kernel_rfl, by kernel_rfl⟩
theorem fr90 : FnRow Tryz.prog 90 fi90 := ⟨Tryz.f90, Tryz.func90, by kernel_rfl, rfl, rfl, by kernel_rfl, by kernel_rfl⟩
theorem fr91 : FnRow Tryz.prog 91 fi91 := ⟨Tryz.f91, Tryz.func91, by kernel_rfl, rfl, rfl, by kernel_rfl, by kernel_rfl⟩
theorem fr92 : FnRow Tryz.prog 92 fi92 := ⟨Tryz.f92, Tryz.func92, by kernel_rfl, rfl, rfl, by kernel_rfl, by kernel_rfl⟩
theorem fr93 : FnRow Tryz.prog 93 fi93 := ⟨Tryz.f93, Tryz.func93, by kernel_rfl, rfl, rfl, by kernel_rfl, by kernel_rfl⟩
theorem fr94 : FnRow Tryz.prog 94 fi94 := ⟨Tryz.f94, Tryz.func94, by kernel_rfl, rfl, rfl, by kernel_rfl, by kernel_rfl⟩
theorem fr95 : FnRow Tryz.prog 95 fi95 := ⟨Tryz.f95, Tryz.func95, by kernel_rfl, rfl, rfl, by kernel_rfl, by kernel_rfl⟩
theorem fr96 : FnRow Tryz.prog 96 fi96 := ⟨Tryz.f96, Tryz.func96, by kernel_rfl, rfl, rfl, by kernel_rfl, by kernel_rfl⟩
theorem fr97 : FnRow Tryz.prog 97 fi97 := ⟨Tryz.f97, Tryz.func97, by kernel_rfl, rfl, rfl, by kernel_rfl, by kernel_rfl⟩
theorem fr98 : FnRow Tryz.prog 98 fi98 := ⟨Tryz.f98, Tryz.func98, by kernel_rfl, rfl, rfl, by kernel_rfl, by kernel_rfl⟩
theorem fr99 : FnRow Tryz.prog 99 fi99 := ⟨Tryz.f99, Tryz.func99, by kernel_rfl, rfl, rfl, by kernel_rfl, by kernel_rfl⟩
theorem fr100 : FnRow Tryz.prog 100 fi100 := ⟨Tryz.f100, Tryz.func100, by kernel_rfl, rfl, rfl, by kernel_rfl, by kernel_rfl⟩
theorem fr101 : FnRow Tryz.prog 101 fi101 := ⟨Tryz.f101, Tryz.func101, by kernel_rfl, rfl, rfl, by kernel_rfl, by kernel_rfl⟩
theorem fr102 : FnRow Tryz.prog 102 fi102 := ⟨Tryz.f102, Tryz.func102, by kernel_rfl, rfl, rfl, by kernel_rfl, by kernel_rfl⟩
theorem fr103 : FnRow Tryz.prog 103 fi103 := ⟨Tryz.f103, Tryz.func103, by kernel_rfl, rfl, rfl, by kernel_rfl, by kernel_rfl⟩
theorem fr104 : FnRow Tryz.prog 104 fi104 := ⟨Tryz.f104, Tryz.func104, by kernel_rfl, rfl, rfl, by kernel_rfl, by kernel_rfl⟩
theorem fr105 : FnRow Tryz.prog 105 fi105 := ⟨Tryz.f105, Tryz.func105, by kernel_rfl, rfl, rfl, by kernel_rfl, by kernel_rfl⟩
theorem fr106 : FnRow Tryz.prog 106 fi106 := ⟨Tryz.f106, Tryz.func106, by kernel_rfl, rfl, rfl, by kernel_rfl, by kernel_rfl⟩
theorem fr107 : FnRow Tryz.prog 107 fi107 := ⟨Tryz.f107, Tryz.func107, by kernel_rfl, rfl, rfl, by kernel_rfl, by kernel_rfl⟩
theorem fr108 : FnRow Tryz.prog 108 fi108 := ⟨Tryz.f108, Tryz.func108, by kernel_rfl, rfl, rfl, by kernel_rfl, by kernel_rfl⟩
theorem fr109 : FnRow Tryz.prog 109 fi109 := ⟨Tryz.f109, Tryz.func109, by kernel_rfl, rfl, rfl, by kernel_rfl, by kernel_rfl⟩
theorem fr110 : FnRow Tryz.prog 110 fi110 := ⟨Tryz.f110, Tryz.func110, by kernel_rfl, rfl, rfl, by kernel_rfl, by kernel_rfl⟩
theorem fr111 : FnRow Tryz.prog 111 fi111 := ⟨Tryz.f111, Tryz.func111, by kernel_rfl, rfl, rfl, by kernel_rfl, by kernel_rfl⟩
theorem fr112 : FnRow Tryz.prog 112 fi112 := ⟨Tryz.f112, Tryz.func112, by kernel_rfl, rfl, rfl, by kernel_rfl, by kernel_rfl⟩
theorem fr113 : FnRow Tryz.prog 113 fi113 := ⟨Tryz.f113, Tryz.func113, by kernel_rfl, rfl, rfl, by kernel_rfl, by kernel_rfl⟩
theorem fr114 : FnRow Tryz.prog 114 fi114 := ⟨Tryz.f114, Tryz.func114, by kernel_rfl, rfl, rfl, by kernel_rfl, by kernel_rfl⟩
theorem fr115 : FnRow Tryz.prog 115 fi115 := ⟨Tryz.f115, Tryz.func115, by kernel_rfl, rfl, rfl, by kernel_rfl, by kernel_rfl⟩
theorem fr116 : FnRow Tryz.prog 116 fi116 := ⟨Tryz.f116, Tryz.func116, by kernel_rfl, rfl, rfl, by kernel_rfl, by kernel_rfl⟩
theorem fr117 : FnRow Tryz.prog 117 fi117 := ⟨Tryz.f117, Tryz.func117, by kernel_rfl, rfl, rfl, by kernel_rfl, by kernel_rfl⟩
theorem fr118 : FnRow Tryz.prog 118 fi118 := ⟨Tryz.f118, Tryz.func118, by kernel_rfl, rfl, rfl, by kernel_rfl, by kernel_rfl⟩
theorem fr119 : FnRow Tryz.prog 119 fi119 := ⟨Tryz.f119, Tryz.func119, by kernel_rfl, rfl, rfl, by kernel_rfl, by kernel_rfl⟩
theorem fr120 : FnRow Tryz.prog 120 fi120 := ⟨Tryz.f120, Tryz.func120, by kernel_rfl, rfl, rfl, by kernel_rfl, by kernel_rfl⟩
theorem fr121 : FnRow Tryz.prog 121 fi121 := ⟨Tryz.f121, Tryz.func121, by kernel_rfl, rfl, rfl, by kernel_rfl, by kernel_rfl⟩
theorem fr122 : FnRow Tryz.prog 122 fi122 := ⟨Tryz.f122, Tryz.func122, by kernel_rfl, rfl, rfl, by kernel_rfl, by kernel_rfl⟩
theorem fr123 : FnRow Tryz.prog 123 fi123 := ⟨Tryz.f123, Tryz.func123, by kernel_rfl, rfl, rfl, by kernel_rfl, by kernel_rfl⟩
theorem fr124 : FnRow Tryz.prog 124 fi124 := ⟨Tryz.f124, Tryz.func124, by kernel_rfl, rfl, rfl, by kernel_rfl, by kernel_rfl⟩
theorem fr125 : FnRow Tryz.prog 125 fi125 := ⟨Tryz.f125, Tryz.func125, by kernel_rfl, rfl, rfl, by kernel_rfl, by kernel_rfl⟩
theorem fr126 : FnRow Tryz.prog 126 fi126 := ⟨Tryz.f126, Tryz.func126, by kernel_rfl, rfl, rfl, by kernel_rfl, by kernel_rfl⟩
theorem fr127 : FnRow Tryz.prog 127 fi127 := ⟨Tryz.f127, Tryz.func127, by kernel_rfl, rfl, rfl, by kernel_rfl, by kernel_rfl⟩
theorem fr128 : FnRow Tryz.prog 128 fi128 := ⟨Tryz.f128, Tryz.func128, by kernel_rfl, rfl, rfl, by kernel_rfl, by kernel_rfl⟩
theorem fr129 : FnRow Tryz.prog 129 fi129 := ⟨Tryz.f129, Tryz.func129, by kernel_rfl, rfl, rfl, by kernel_rfl, by kernel_rfl⟩
theorem fr130 : FnRow Tryz.prog 130 fi130 := ⟨Tryz.f130, Tryz.func130, by kernel_rfl, rfl, rfl, by kernel_rfl, by kernel_rfl⟩
theorem fr131 : FnRow Tryz.prog 131 fi131 := ⟨Tryz.f131, Tryz.func131, by kernel_rfl, rfl, rfl, by kernel_rfl, by kernel_rfl⟩
theorem fr132 : FnRow Tryz.prog 132 fi132 := ⟨Tryz.f132, Tryz.func132, by kernel_rfl, rfl, rfl, by kernel_rfl, by kernel_rfl⟩
theorem fr133 : FnRow Tryz.prog 133 fi133 := ⟨Tryz.f133, Tryz.func133, by kernel_rfl, rfl, rfl, by kernel_rfl, by kernel_rfl⟩
theorem fr134 : FnRow Tryz.prog 134 fi134 := ⟨Tryz.f134, Tryz.func134, by kernel_rfl, rfl, rfl, by kernel_rfl, by kernel_rfl⟩
theorem fr135 : FnRow Tryz.prog 135 fi135 := ⟨Tryz.f135, Tryz.func135, by kernel_rfl, rfl, rfl, by kernel_rfl, by kernel_rfl⟩
theorem fr136 : FnRow Tryz.prog 136 fi136 := ⟨Tryz.f136, Tryz.func136, by kernel_rfl, rfl, rfl, by kernel_rfl, by kernel_rfl⟩
theorem fr137 : FnRow Tryz.prog 137 fi137 := ⟨Tryz.f137, Tryz.func137, by kernel_rfl, rfl, rfl, by kernel_rfl, by kernel_rfl⟩
theorem fr138 : FnRow Tryz.prog 138 fi138 := ⟨Tryz.f138, Tryz.func138, by kernel_rfl, rfl, rfl, by kernel_rfl, by kernel_rfl⟩
theorem fr139 : FnRow Tryz.prog 139 fi139 := ⟨Tryz.f139, Tryz.func139, by kernel_rfl, rfl, rfl, by kernel_rfl, by kernel_rfl⟩
theorem fr140 : FnRow Tryz.prog 140 fi140 := ⟨Tryz.f140, Tryz.func140, by kernel_rfl, rfl, rfl, by kernel_rfl, by kernel_rfl⟩
theorem fr141 : FnRow Tryz.prog 141 fi141 := ⟨Tryz.f141, Tryz.func141, by kernel_rfl, rfl, rfl, by kernel_rfl, by kernel_rfl⟩
theorem fr142 : FnRow Tryz.prog 142 fi142 := ⟨Tryz.f142, Tryz.func142, by kernel_rfl, rfl, rfl, by kernel_rfl, by kernel_rfl⟩
theorem fr143 : FnRow Tryz.prog 143 fi143 := ⟨Tryz.f143, Tryz.func143, by kernel_rfl, rfl, rfl, by kernel_rfl, by kernel_rfl⟩
theorem fr144 : FnRow Tryz.prog 144 fi144 := ⟨Tryz.f144, Tryz.func144, by kernel_rfl, rfl, rfl, by kernel_rfl, by kernel_rfl⟩
theorem fr145 : FnRow Tryz.prog 145 fi145 := ⟨Tryz.f145, Tryz.func145, by kernel_rfl, rfl, rfl, by kernel_rfl, by kernel_rfl⟩
theorem fr146 : FnRow Tryz.prog 146 fi146 := ⟨Tryz.f146, Tryz.func146, by kernel_rfl, rfl, rfl, by kernel_rfl, by kernel_rfl⟩
theorem fr147 : FnRow Tryz.prog 147 fi147 := ⟨Tryz.f147, Tryz.func147, by kernel_rfl, rfl, rfl, by kernel_rfl, by kernel_rfl⟩
theorem fr148 : FnRow Tryz.prog 148 fi148 := ⟨Tryz.f148, Tryz.func148, by kernel_rfl, rfl, rfl, by kernel_rfl, by kernel_rfl⟩
theorem fr149 : FnRow Tryz.prog 149 fi149 := ⟨Tryz.f149, Tryz.func149, by kernel_rfl, rfl, rfl, by kernel_rfl, by kernel_rfl⟩
theorem fr150 : FnRow Tryz.prog 150 fi150 := ⟨Tryz.f150, Tryz.func150, by kernel_rfl, rfl, rfl, by kernel_rfl, by kernel_rfl⟩
theorem fr151 : FnRow Tryz.prog 151 fi151 := ⟨Tryz.f151, Tryz.func151, by kernel_rfl, rfl, rfl, by kernel_rfl, by kernel_rfl⟩
theorem fr152 : FnRow Tryz.prog 152 fi152 := ⟨Tryz.f152, Tryz.func152, by kernel_rfl, rfl, rfl, by kernel_rfl, by kernel_rfl⟩
theorem fr153 : FnRow Tryz.prog 153 fi153 := ⟨Tryz.f153, Tryz.func153, by kernel_rfl, rfl, rfl, by kernel_rfl, by kernel_rfl⟩
theorem fr154 : FnRow Tryz.prog 154 fi154 := ⟨Tryz.f154, Tryz.func154, by kernel_rfl, rfl, rfl, by kernel_rfl, by kernel_rfl⟩
theorem fr155 : FnRow Tryz.prog 155 fi155 := ⟨Tryz.f155, Tryz.func155, by kernel_rfl, rfl, rfl, by kernel_rfl, by kernel_rfl⟩
theorem fr156 : FnRow Tryz.prog 156 fi156 := ⟨Tryz.f156, Tryz.func156, by kernel_rfl, rfl, rfl, by kernel_rfl, by kernel_rfl⟩
theorem fr157 : FnRow Tryz.prog 157 fi157 := ⟨Tryz.f157, Tryz.func157, by kernel_rfl, rfl, rfl, by kernel_rfl, by kernel_rfl⟩
theorem fr158 : FnRow Tryz.prog 158 fi158 := ⟨Tryz.f158, Tryz.func158, by kernel_rfl, rfl, rfl, by kernel_rfl, by kernel_rfl⟩
theorem fr159 : FnRow Tryz.prog 159 fi159 := ⟨Tryz.f159, Tryz.func159, by kernel_rfl, rfl, rfl, by kernel_rfl, by kernel_rfl⟩
theorem fr160 : FnRow Tryz.prog 160 fi160 := ⟨Tryz.f160, Tryz.func160, by kernel_rfl, rfl, rfl, by kernel_rfl, by kernel_rfl⟩
theorem fr161 : FnRow Tryz.prog 161 fi161 := ⟨Tryz.f161, Tryz.func161, by kernel_rfl, rfl, rfl, by kernel_rfl, by kernel_rfl⟩
theorem fr162 : FnRow Tryz.prog 162 fi162 := ⟨Tryz.f162, Tryz.func162, by kernel_rfl, rfl, rfl, by kernel_rfl, by kernel_rfl⟩
theorem fr163 : FnRow Tryz.prog 163 fi163 := ⟨Tryz.f163, Tryz.func163, by kernel_rfl, rfl, rfl, by kernel_rfl, by kernel_rfl⟩
theorem fr164 : FnRow Tryz.prog 164 fi164 := ⟨Tryz.f164, Tryz.func164, by kernel_rfl, rfl, rfl, by kernel_rfl, by kernel_rfl⟩
theorem fr165 : FnRow Tryz.prog 165 fi165 := ⟨Tryz.f165, Tryz.func165, by kernel_rfl, rfl, rfl, by kernel_rfl, by kernel_rfl⟩
theorem fr166 : FnRow Tryz.prog 166 fi166 := ⟨Tryz.f166, Tryz.func166, by kernel_rfl, rfl, rfl, by kernel_rfl, by kernel_rfl⟩
theorem fr167 : FnRow Tryz.prog 167 fi167 := ⟨Tryz.f167, Tryz.func167, by kernel_rfl, rfl, rfl, by kernel_rfl, by kernel_rfl⟩
theorem fr168 : FnRow Tryz.prog 168 fi168 := ⟨Tryz.f168, Tryz.func168, by kernel_rfl, rfl, rfl, by kernel_rfl, by kernel_rfl⟩
theorem fr169 : FnRow Tryz.prog 169 fi169 := ⟨Tryz.f169, Tryz.func169, by kernel_rfl, rfl, rfl, by kernel_rfl, by kernel_rfl⟩
theorem fr170 : FnRow Tryz.prog 170 fi170 := ⟨Tryz.f170, Tryz.func170, by kernel_rfl, rfl, rfl, by kernel_rfl, by kernel_rfl⟩
theorem fr171 : FnRow Tryz.prog 171 fi171 := ⟨Tryz.f171, Tryz.func171, by kernel_rfl, rfl, rfl, by kernel_rfl, by kernel_rfl⟩
theorem fr172 : FnRow Tryz.prog 172 fi172 := ⟨Tryz.f172, Tryz.func172, by kernel_rfl, rfl, rfl, by kernel_rfl, by kernel_rfl⟩
theorem fr173 : FnRow Tryz.prog 173 fi173 := ⟨Tryz.f173, Tryz.func173, by kernel_rfl, rfl, rfl, by kernel_rfl, by kernel_rfl⟩
theorem fr174 : FnRow Tryz.prog 174 fi174 := ⟨Tryz.f174, Tryz.func174, by kernel_rfl, rfl, rfl, by kernel_rfl, by kernel_rfl⟩
theorem fr175 : FnRow Tryz.prog 175 fi175 := ⟨Tryz.f175, Tryz.func175, by kernel_rfl, rfl, rfl, by kernel_rfl, by kernel_rfl⟩
theorem fr176 : FnRow Tryz.prog 176 fi176 := ⟨Tryz.f176, Tryz.func176, by kernel_rfl, rfl, rfl, by kernel_rfl, by kernel_rfl⟩
theorem fr177 : FnRow Tryz.prog 177 fi177 := ⟨Tryz.f177, Tryz.func177, by kernel_rfl, rfl, rfl, by kernel_rfl, by kernel_rfl⟩
theorem fr178 : FnRow Tryz.prog 178 fi178 := ⟨Tryz.f178, Tryz.func178, by kernel_rfl, rfl, rfl, by kernel_rfl, by kernel_rfl⟩
theorem fr179 : FnRow Tryz.prog 179 fi179 := ⟨Tryz.f179, Tryz.func179, by kernel_rfl, rfl, rfl, by kernel_rfl, by kernel_rfl⟩
theorem fr180 : FnRow Tryz.prog 180 fi180 := ⟨Tryz.f180, Tryz.func180, by kernel_rfl, rfl, rfl, by kernel_rfl, by kernel_rfl⟩
theorem fr181 : FnRow Tryz.prog 181 fi181 := ⟨Tryz.f181, Tryz.func181, by kernel_rfl, rfl, rfl, by kernel_rfl, by kernel_rfl⟩
theorem fr182 : FnRow Tryz.prog 182 fi182 := ⟨Tryz.f182, Tryz.func182, by kernel_rfl, rfl, rfl, by kernel_rfl, by kernel_rfl⟩
theorem fr183 : FnRow Tryz.prog 183 fi183 := ⟨Tryz.f183, Tryz.func183, by kernel_rfl, rfl, rfl, by kernel_rfl, by kernel_rfl⟩
theorem fr184 : FnRow Tryz.prog 184 fi184 := ⟨Tryz.f184, Tryz.func184, by kernel_rfl, rfl, rfl, by kernel_rfl, by kernel_rfl⟩
theorem fr185 : FnRow Tryz.prog 185 fi185 := ⟨Tryz.f185, Tryz.func185, by kernel_rfl, rfl, rfl, by kernel_rfl, by kernel_rfl⟩
theorem fr186 : FnRow Tryz.prog 186 fi186 := ⟨Tryz.f186, Tryz.func186, by kernel_rfl, rfl, rfl, by kernel_rfl, by kernel_rfl⟩
theorem fr187 : FnRow Tryz.prog 187 fi187 := ⟨Tryz.f187, Tryz.func187, by kernel_rfl, rfl, rfl, by kernel_rfl, by kernel_rfl⟩
theorem fr188 : FnRow Tryz.prog 188 fi188 := ⟨Tryz.f188, Tryz.func188, by kernel_rfl, rfl, rfl, by kernel_rfl, by kernel_rfl⟩
theorem fr189 : FnRow Tryz.prog 189 fi189 := ⟨Tryz.f189, Tryz.func189, by kernel_rfl, rfl, rfl, by kernel_rfl, by kernel_rfl⟩
theorem fr190 : FnRow Tryz.prog 190 fi190 := ⟨Tryz.f190, Tryz.func190, by kernel_rfl, rfl, rfl, by kernel_rfl, by kernel_rfl⟩
theorem fr191 : FnRow Tryz.prog 191 fi191 := ⟨Tryz.f191, Tryz.func191, by kernel_rfl, rfl, rfl, by kernel_rfl, by kernel_rfl⟩
theorem fr192 : FnRow Tryz.prog 192 fi192 := ⟨Tryz.f192, Tryz.func192, by kernel_rfl, rfl, rfl, by kernel_rfl, by kernel_rfl⟩
theorem fr193 : FnRow Tryz.prog 193 fi193 := ⟨Tryz.f193, Tryz.func193, by kernel_rfl, rfl, rfl, by kernel_rfl, by kernel_rfl⟩
theorem fr194 : FnRow Tryz.prog 194 fi194 := ⟨Tryz.f194, Tryz.func194, by kernel_rfl, rfl, rfl, by kernel_rfl, by kernel_rfl⟩
theorem fr195 : FnRow Tryz.prog 195 fi195 := ⟨Tryz.f195, Tryz.func195, by kernel_rfl, rfl, rfl, by kernel_rfl, by kernel_rfl⟩
theorem fr196 : FnRow Tryz.prog 196 fi196 := ⟨Tryz.f196, Tryz.func196, by kernel_rfl, rfl, rfl, by kernel_rfl, by kernel_rfl⟩
theorem fr197 : FnRow Tryz.prog 197 fi197 := ⟨Tryz.f197, Tryz.func197, by kernel_rfl, rfl, rfl, by kernel_rfl, by kernel_rfl⟩
theorem fr198 : FnRow Tryz.prog 198 fi198 := ⟨Tryz.f198, Tryz.func198, by kernel_rfl, rfl, rfl, by kernel_rfl, by kernel_rfl⟩
theorem fr199 : FnRow Tryz.prog 199 fi199 := ⟨Tryz.f199, Tryz.func199, by kernel_rfl, rfl, rfl, by kernel_rfl, by kernel_rfl⟩
theorem fr200 : FnRow Tryz.prog 200 fi200 := ⟨Tryz.f200, Tryz.func200, by kernel_rfl, rfl, rfl, by kernel_rfl, by kernel_rfl⟩
theorem fr201 : FnRow Tryz.prog 201 fi201 := ⟨Tryz.f201, Tryz.func201, by kernel_rfl, rfl, rfl, by kernel_rfl, by kernel_rfl⟩
theorem fr202 : FnRow Tryz.prog 202 fi202 := ⟨Tryz.f202, Tryz.func202, by kernel_rfl, rfl, rfl, by kernel_rfl, by kernel_rfl⟩
theorem fr203 : FnRow Tryz.prog 203 fi203 := ⟨Tryz.f203, Tryz.func203, by kernel_rfl, rfl, rfl, by kernel_rfl, by kernel_rfl⟩
theorem fr204 : FnRow Tryz.prog 204 fi204 := ⟨Tryz.f204, Tryz.func204, by kernel_rfl, rfl, rfl, by kernel_rfl, by kernel_rfl⟩
theorem fr205 : FnRow Tryz.prog 205 fi205 := ⟨Tryz.f205, Tryz.func205, by kernel_rfl, rfl, rfl, by kernel_rfl, by kernel_rfl⟩
theorem fr206 : FnRow Tryz.prog 206 fi206 := ⟨Tryz.f206, Tryz.func206, by kernel_rfl, rfl, rfl, by kernel_rfl, by kernel_rfl⟩
theorem fr207 : FnRow Tryz.prog 207 fi207 := ⟨Tryz.f207, Tryz.func207, by kernel_rfl, rfl, rfl, by kernel_rfl, by kernel_rfl⟩
theorem fr208 : FnRow Tryz.prog 208 fi208 := ⟨Tryz.f208, Tryz.func208, by kernel_rfl, rfl, rfl, by kernel_rfl, by kernel_rfl⟩
theorem fr209 : FnRow Tryz.prog 209 fi209 := ⟨Tryz.f209, Tryz.func209, by kernel_rfl, rfl, rfl, by kernel_rfl, by kernel_rfl⟩
theorem fr210 : FnRow Tryz.prog 210 fi210 := ⟨Tryz.f210, Tryz.func210, by kernel_rfl, rfl, rfl, by kernel_rfl, by kernel_rfl⟩
theorem fr211 : FnRow Tryz.prog 211 fi211 := ⟨Tryz.f211, Tryz.func211, by kernel_rfl, rfl, rfl, by kernel_rfl, by kernel_rfl⟩
theorem fr212 : FnRow Tryz.prog 212 fi212 := ⟨Tryz.f212, Tryz.func212, by kernel_rfl, rfl, rfl, by kernel_rfl, by kernel_rfl⟩
theorem fr213 : FnRow Tryz.prog 213 fi213 := ⟨Tryz.f213, Tryz.func213, by kernel_rfl, rfl, rfl, by kernel_rfl, by kernel_rfl⟩
theorem fr214 : FnRow Tryz.prog 214 fi214 := ⟨Tryz.f214, Tryz.func214, by kernel_rfl, rfl, rfl, by kernel_rfl, by kernel_rfl⟩
theorem fr215 : FnRow Tryz.prog 215 fi215 := ⟨Tryz.f215, Tryz.func215, by kernel_rfl, rfl, rfl, by kernel_rfl, by kernel_rfl⟩
theorem fr216 : FnRow Tryz.prog 216 fi216 := ⟨Tryz.f216, Tryz.func216, by kernel_rfl, rfl, rfl, by kernel_rfl, by kernel_rfl⟩
theorem fr218 : FnRow Tryz.prog 218 fi218 := ⟨Tryz.f218, Tryz.func218, by kernel_rfl, rfl, rfl, by kernel_rfl, by kernel_rfl⟩
theorem fr219 : FnRow Tryz.prog 219 fi219 := ⟨Tryz.f219, Tryz.func219, by kernel_rfl, rfl, rfl, by kernel_rfl, by kernel_rfl⟩
theorem fr220 : FnRow Tryz.prog 220 fi220 := ⟨Tryz.f220, Tryz.func220, by kernel_rfl, rfl, rfl, by kernel_rfl, by kernel_rfl⟩
theorem fr221 : FnRow Tryz.prog 221 fi221 := ⟨Tryz.f221, Tryz.func221, by kernel_rfl, rfl, rfl, by kernel_rfl, by kernel_rfl⟩
theorem fr222 : FnRow Tryz.prog 222 fi222 := ⟨Tryz.f222, Tryz.func222, by kernel_rfl, rfl, rfl, by kernel_rfl, by kernel_rfl⟩
theorem fr223 : FnRow Tryz.prog 223 fi223 := ⟨Tryz.f223, Tryz.func223, by kernel_rfl, rfl, rfl, by kernel_rfl, by kernel_rfl⟩
theorem fr224 : FnRow Tryz.prog 224 fi224 := ⟨Tryz.f224, Tryz.func224, by kernel_rfl, rfl, rfl, by kernel_rfl, by kernel_rfl⟩
theorem fr225 : FnRow Tryz.prog 225 fi225 := ⟨Tryz.f225, Tryz.func225, by kernel_rfl, rfl, rfl, by kernel_rfl, by kernel_rfl⟩
theorem fr226 : FnRow Tryz.prog 226 fi226 := ⟨Tryz.f226, Tryz.func226, by kernel_rfl, rfl, rfl, by kernel_rfl, by kernel_rfl⟩
theorem fr227 : FnRow Tryz.prog 227 fi227 := ⟨Tryz.f227, Tryz.func227, by kernel_rfl, rfl, rfl, by kernel_rfl, by kernel_rfl⟩
theorem fr228 : FnRow Tryz.prog 228 fi228 := ⟨Tryz.f228, Tryz.func228, by kernel_rfl, rfl, rfl, by kernel_rfl, by kernel_rfl⟩
theorem fr229 : FnRow Tryz.prog 229 fi229 := ⟨Tryz.f229, Tryz.func229, by kernel_rfl, rfl, rfl, by kernel_rfl, by kernel_rfl⟩
theorem fr230 : FnRow Tryz.prog 230 fi230 := ⟨Tryz.f230, Tryz.func230, by kernel_rfl, rfl, rfl, by kernel_rfl, by kernel_rfl⟩
theorem fr231 : FnRow Tryz.prog 231 fi231 := ⟨Tryz.f231, Tryz.func231, by kernel_rfl, rfl, rfl, by kernel_rfl, by kernel_rfl⟩
theorem fr232 : FnRow Tryz.prog 232 fi232 := ⟨Tryz.f232, Tryz.func232, by kernel_rfl, rfl, rfl, by kernel_rfl, by kernel_rfl⟩
theorem fr233 : FnRow Tryz.prog 233 fi233 := ⟨Tryz.f233, Tryz.func233, by kernel_rfl, rfl, rfl, by kernel_rfl, by kernel_rfl⟩
theorem fr234 : FnRow Tryz.prog 234 fi234 := ⟨Tryz.f234, Tryz.func234, by kernel_rfl, rfl, rfl, by kernel_rfl, by kernel_rfl⟩
theorem fr235 : FnRow Tryz.prog 235 fi235 := ⟨Tryz.f235, Tryz.func235, by kernel_rfl, rfl, rfl, by kernel_rfl, by kernel_rfl⟩
theorem fr236 : FnRow Tryz.prog 236 fi236 := ⟨Tryz.f236, Tryz.func236, by kernel_rfl, rfl, rfl, by kernel_rfl, by kernel_rfl⟩
theorem fr237 : FnRow Tryz.prog 237 fi237 := ⟨Tryz.f237, Tryz.func237, by kernel_rfl, rfl, rfl, by kernel_rfl, by kernel_rfl⟩
theorem fr238 : FnRow Tryz.prog 238 fi238 := ⟨Tryz.f238, Tryz.func238, by kernel_rfl, rfl, rfl, by kernel_rfl, by kernel_rfl⟩
theorem fr239 : FnRow Tryz.prog 239 fi239 := ⟨Tryz.f239, Tryz.func239, by kernel_rfl, rfl, rfl, by kernel_rfl, by kernel_rfl⟩
theorem fr240 : FnRow Tryz.prog 240 fi240 := ⟨Tryz.f240, Tryz.func240, by kernel_rfl, rfl, rfl, by kernel_rfl, by kernel_rfl⟩
theorem fr241 : FnRow Tryz.prog 241 fi241 := ⟨Tryz.f241, Tryz.func241, by kernel_rfl, rfl, rfl, by kernel_rfl, by kernel_rfl⟩
theorem fr242 : FnRow Tryz.prog 242 fi242 := ⟨Tryz.f242, Tryz.func242, by kernel_rfl, rfl, rfl, by kernel_rfl, by kernel_rfl⟩
theorem fr243 : FnRow Tryz.prog 243 fi243 := ⟨Tryz.f243, Tryz.func243, by kernel_rfl, rfl, rfl, by kernel_rfl, by kernel_rfl⟩
theorem fr244 : FnRow Tryz.prog 244 fi244 := ⟨Tryz.f244, Tryz.func244, by kernel_rfl, rfl, rfl, by kernel_rfl, by kernel_rfl⟩
theorem fr245 : FnRow Tryz.prog 245 fi245 := ⟨Tryz.f245, Tryz.func245, by kernel_rfl, rfl, rfl, by kernel_rfl, by kernel_rfl⟩
theorem fr271 : FnRow Tryz.prog 271 fi271 := ⟨Tryz.f271, Tryz.func271, by kernel_rfl, rfl, rfl, by kernel_rfl, by kernel_rfl⟩
noncomputable def fl0 : List (Nat × FI) := [(2, fi2), (3, fi3), (4, fi4), (5, fi5), (6, fi6), (7, fi7), (8, fi8), (9, fi9), (10, fi10), (11, fi11), (12, fi12), (13, fi13), (14, fi14), (15, fi15), (16, fi16), (17, fi17), (18, fi18), (19, fi19), (20, fi20), (21, fi21), (22, fi22), (23, fi23), (24, fi24), (25, fi25), (26, fi26)]
theorem flo0 : AllP (FnRow Tryz.prog) fl0 := ⟨fr2, ⟨fr3, ⟨fr4, ⟨fr5, ⟨fr6, ⟨fr7, ⟨fr8, ⟨fr9, ⟨fr10, ⟨fr11, ⟨fr12, ⟨fr13, ⟨fr14, ⟨fr15, ⟨fr16, ⟨fr17, ⟨fr18, ⟨fr19, ⟨fr20, ⟨fr21, ⟨fr22, ⟨fr23, ⟨fr24, ⟨fr25, ⟨fr26, trivial⟩⟩⟩⟩⟩⟩⟩⟩⟩⟩⟩⟩⟩⟩⟩⟩⟩⟩⟩⟩⟩⟩⟩⟩⟩
noncomputable def fl1 : List (Nat × FI) := [(27, fi27), (28, fi28), (29, fi29), (30, fi30), (31, fi31), (32, fi32), (33, fi33), (34, fi34), (35, fi35), (36, fi36), (37, fi37), (38, fi38), (39, fi39), (40, fi40), (41, fi41), (42, fi42), (43, fi43), (44, fi44), (45, fi45), (46, fi46), (47, fi47), (48, fi48), (49, fi49), (50, fi50), (51, fi51)]
theorem flo1 : AllP (FnRow Tryz.prog) fl1 := ⟨fr27, ⟨fr28, ⟨fr29, ⟨fr30, ⟨fr31, ⟨fr32, ⟨fr33, ⟨fr34, ⟨fr35, ⟨fr36, ⟨fr37, ⟨fr38, ⟨fr39, ⟨fr40, ⟨fr41, ⟨fr42, ⟨fr43, ⟨fr44, ⟨fr45, ⟨fr46, ⟨fr47, ⟨fr48, ⟨fr49, ⟨fr50, ⟨fr51, trivial⟩⟩⟩⟩⟩⟩⟩⟩⟩⟩⟩⟩⟩⟩⟩⟩⟩⟩⟩⟩⟩⟩⟩⟩⟩
noncomputable def fl2 : List (Nat × FI) := [(52, fi52), (53, fi53), (54, fi54), (55, fi55), (56, fi56), (57, fi57), (58, fi58), (59, fi59), (60, fi60), (61, fi61), (62, fi62), (63, fi63), (64, fi64), (65, fi65), (66, fi66), (67, fi67), (68, fi68), (69, fi69), (70, fi70), (71, fi71), (72, fi72), (73, fi73), (74, fi74), (75, fi75), (76, fi76)]
theorem flo2 : AllP (FnRow Tryz.prog) fl2 := ⟨fr52, ⟨fr53, ⟨fr54, ⟨fr55, ⟨fr56, ⟨fr57, ⟨fr58, ⟨fr59, ⟨fr60, ⟨fr61, ⟨fr62, ⟨fr63, ⟨fr64, ⟨fr65, ⟨fr66, ⟨fr67, ⟨fr68, ⟨fr69, ⟨fr70, ⟨fr71, ⟨fr72, ⟨fr73, ⟨fr74, ⟨fr75, ⟨fr76, trivial⟩⟩⟩⟩⟩⟩⟩⟩⟩⟩⟩⟩⟩⟩⟩⟩⟩⟩⟩⟩⟩⟩⟩⟩⟩
noncomputable def fl3 : List (Nat × FI) := [(77, fi77), (78, fi78), (79, fi79), (80, fi80), (81, fi81), (82, fi82), (83, fi83), (84, fi84), (85, fi85), (86, fi86), (87, fi87), (88, fi88), (89, fi89), (90, fi90), (91, fi91), (92, fi92), (93, fi93), (94, fi94), (95, fi95), (96, fi96), (97, fi97), (98, fi98), (99, fi99), (100, fi100), (101, fi101)]
theorem flo3 : AllP (FnRow Tryz.prog) fl3 := ⟨fr77, ⟨fr78, ⟨fr79, ⟨fr80, ⟨fr81, ⟨fr82, ⟨fr83, ⟨fr84, ⟨fr85, ⟨fr86, ⟨fr87, ⟨fr88, ⟨fr89, ⟨fr90, ⟨fr91, ⟨fr92, ⟨fr93, ⟨fr94, ⟨fr95, ⟨fr96, ⟨fr97, ⟨fr98, ⟨fr99, ⟨fr100, ⟨fr101, trivial⟩⟩⟩⟩⟩⟩⟩⟩⟩⟩⟩⟩⟩⟩⟩⟩⟩⟩⟩⟩⟩⟩⟩⟩⟩
noncomputable def fl4 : List (Nat × FI) := [(102, fi102), (103, fi103), (104, fi104), (105, fi105), (106, fi106), (107, fi107), (108, fi108), (109, fi109), (110, fi110), (111, fi111), (112, fi112), (113, fi113), (114, fi114), (115, fi115), (116, fi116), (117, fi117), (118, fi118), (119, fi119), (120, fi120), (121, fi121), (122, fi122), (123, fi123), (124, fi124), (125, fi125), (126, fi126)]
theorem flo4 : AllP (FnRow Tryz.prog) fl4 := ⟨fr102, ⟨fr103, ⟨fr104, ⟨fr105, ⟨fr106, ⟨fr107, ⟨fr108, ⟨fr109, ⟨fr110, ⟨fr111, ⟨fr112, ⟨fr113, ⟨fr114, ⟨fr115, ⟨fr116, ⟨fr117, ⟨fr118, ⟨fr119, ⟨fr120, ⟨fr121, ⟨fr122, ⟨fr123, ⟨fr124, ⟨fr125, ⟨fr126, trivial⟩⟩⟩⟩⟩⟩⟩⟩⟩⟩⟩⟩⟩⟩⟩⟩⟩⟩⟩⟩⟩⟩⟩⟩⟩
noncomputable def fl5 : List (Nat × FI) := [(127, fi127), (128, fi128), (129, fi129), (130, fi130), (131, fi131), (132, fi132), (133, fi133), (134, fi134), (135, fi135), (136, fi136), (137, fi137), (138, fi138), (139, fi139), (140, fi140), (141, fi141), (142, fi142), (143, fi143), (144, fi144), (145, fi145), (146, fi146), (147, fi147), (148, fi148), (149, fi149), (150, fi150), (151, fi151)]
theorem flo5 : AllP (FnRow Tryz.prog) fl5 := ⟨fr127, ⟨fr128, ⟨fr129, ⟨fr130, ⟨fr131, ⟨fr132, ⟨fr133, ⟨fr134, ⟨fr135, ⟨fr136, ⟨fr137, ⟨fr138, ⟨fr139, ⟨fr140, ⟨fr141, ⟨fr142, ⟨fr143, ⟨fr144, ⟨fr145, ⟨fr146, ⟨fr147, ⟨fr148, ⟨fr149, ⟨fr150, ⟨fr151, trivial⟩⟩⟩⟩⟩⟩⟩⟩⟩⟩⟩⟩⟩⟩⟩⟩⟩⟩⟩⟩⟩⟩⟩⟩⟩
noncomputable def fl6 : List (Nat × FI) := [(152, fi152), (153, fi153), (154, fi154), (155, fi155), (156, fi156), (157, fi157), (158, fi158), (159, fi159), (160, fi160), (161, fi161), (162, fi162), (163, fi163), (164, fi164), (165, fi165), (166, fi166), (167, fi167), (168, fi168), (169, fi169), (170, fi170), (171, fi171), (172, fi172), (173, fi173), (174, fi174), (175, fi175), (176, fi176)]
theorem flo6 : AllP (FnRow Tryz.prog) fl6 := ⟨fr152, ⟨fr153, ⟨fr154, ⟨fr155, ⟨fr156, ⟨fr157, ⟨fr158, ⟨fr159, ⟨fr160, ⟨fr161, ⟨fr162, ⟨fr163, ⟨fr164, ⟨fr165, ⟨fr166, ⟨fr167, ⟨fr168, ⟨fr169, ⟨fr170, ⟨fr171, ⟨fr172, ⟨fr173, ⟨fr174, ⟨fr175, ⟨fr176, trivial⟩⟩⟩⟩⟩⟩⟩⟩⟩⟩⟩⟩⟩⟩⟩⟩⟩⟩⟩⟩⟩⟩⟩⟩⟩
noncomputable def fl7 : List (Nat × FI) := [(177, fi177), (178, fi178), (179, fi179), (180, fi180), (181, fi181), (182, fi182), (183, fi183), (184, fi184), (185, fi185), (186, fi186), (187, fi187), (188, fi188), (189, fi189), (190, fi190), (191, fi191), (192, fi192), (193, fi193), (194, fi194), (195, fi195), (196, fi196), (197, fi197), (198, fi198), (199, fi199), (200, fi200), (201, fi201)]
theorem flo7 : AllP (FnRow Tryz.prog) fl7 := ⟨fr177, ⟨fr178, ⟨fr179, ⟨fr180, ⟨fr181, ⟨fr182, ⟨fr183, ⟨fr184, ⟨fr185, ⟨fr186, ⟨fr187, ⟨fr188, ⟨fr189, ⟨fr190, ⟨fr191, ⟨fr192, ⟨fr193, ⟨fr194, ⟨fr195, ⟨fr196, ⟨fr197, ⟨fr198, ⟨fr199, ⟨fr200, ⟨fr201, trivial⟩⟩⟩⟩⟩⟩⟩⟩⟩⟩⟩⟩⟩⟩⟩⟩⟩⟩⟩⟩⟩⟩⟩⟩⟩
noncomputable def fl8 : List (Nat × FI) := [(202, fi202), (203, fi203), (204, fi204), (205, fi205), (206, fi206), (207, fi207), (208, fi208), (209, fi209), (210, fi210), (211, fi211), (212, fi212), (213, fi213), (214, fi214), (215, fi215), (216, fi216), (218, fi218), (219, fi219), (220, fi220), (221, fi221), (222, fi222), (223, fi223), (224, fi224), (225, fi225), (226, fi226), (227, fi227)]
theorem flo8 : AllP (FnRow Tryz.prog) fl8 := ⟨fr202, ⟨fr203, ⟨fr204, ⟨fr205, ⟨fr206, ⟨fr207, ⟨fr208, ⟨fr209, ⟨fr210, ⟨fr211, ⟨fr212, ⟨fr213, ⟨fr214, ⟨fr215, ⟨fr216, ⟨fr218, ⟨fr219, ⟨fr220, ⟨fr221, ⟨fr222, ⟨fr223, ⟨fr224, ⟨fr225, ⟨fr226, ⟨fr227, trivial⟩⟩⟩⟩⟩⟩⟩⟩⟩⟩⟩⟩⟩⟩⟩⟩⟩⟩⟩⟩⟩⟩⟩⟩⟩
noncomputable def fl9 : List (Nat × FI) := [(228, fi228), (229, fi229), (230, fi230), (231, fi231), (232, fi232), (233, fi233), (234, fi234), (235, fi235), (236, fi236), (237, fi237), (238, fi238), (239, fi239), (240, fi240), (241, fi241), (242, fi242), (243, fi243), (244, fi244), (245, fi245), (271, fi271)]
theorem flo9 : AllP (FnRow Tryz.prog) fl9 := ⟨fr228, ⟨fr229, ⟨fr230, ⟨fr231, ⟨fr232, ⟨fr233, ⟨fr234, ⟨fr235, ⟨fr236, ⟨fr237, ⟨fr238, ⟨fr239, ⟨fr240, ⟨fr241, ⟨fr242, ⟨fr243, ⟨fr244, ⟨fr245, ⟨fr271, trivial⟩⟩⟩⟩⟩⟩⟩⟩⟩⟩⟩⟩⟩⟩⟩⟩⟩⟩⟩
noncomputable def fnL : List (Nat × FI) := fl0 ++ (fl1 ++ (fl2 ++ (fl3 ++ (fl4 ++ (fl5 ++ (fl6 ++ (fl7 ++ (fl8 ++ (fl9)))))))))
theorem fns_eq : fns = ofL fnL .l := by kernel_rfl
theorem fns_ok : ∀ f fi, fns.get f = some fi → FnRow Tryz.prog f fi := fun f fi h => AllP.get (AllP.append flo0 (AllP.append flo1 (AllP.append flo2 (AllP.append flo3 (AllP.append flo4 (AllP.append flo5 (AllP.append flo6 (AllP.append flo7 (AllP.append flo8 (flo9))))))))) : AllP (FnRow Tryz.prog) fnL) (fns_eq ▸ h)
end Go.Ev
